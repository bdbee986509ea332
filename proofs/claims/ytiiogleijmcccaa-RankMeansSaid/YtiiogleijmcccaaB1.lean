/-
  Layer 3, package gram: what its functions compute. Conditions: none.
-/
import Derived.Test.YtiiogleijmcccaaB0
namespace Go.Av
open Go.Proofs
set_option maxRecDepth 100000
set_option linter.unusedSimpArgs false
set_option linter.unusedVariables false

def there (g : Gr) (s : Sy) : Bool := decide (0 ≤ s.n) && decide (s.n < if s.non then g.nons else g.terms)

theorem f138 (g : Gr) (s : Sy) : PF pg Tq 138 [.agg (eGr g), .agg (eSy s)] (.bool (there g s)) := by
  refine Fb ?_
  refine FH.of (N := 21) (rs := #[.tmp 4]) Try.func138 rfl rfl (of_decide_eq_true rfl) rfl (by decide) ?_
  refine W.rseq (k := 3) rfl fun K hK => ?_
  simp only [go_sem]
  refine hK _ _ _ ?_
  clear hK K
  refine W.rseq (k := 3) rfl fun K hK => ?_
  simp only [go_sem]
  refine hK _ _ _ ?_
  clear hK K
  refine W.seqk fun K hK => ?_
  have tail : ∀ t (h : Heap) n m, t 3 = .ptr 1 0 0 → t 5 = .int .i64 m → h 1 = some (.cells [eSy s]) → (if s.non then g.nons else g.terms) = m → K t h n := by
    intro t h n m e3 e5 e1 em
    refine hK _ _ _ ?_
    clear hK K
    refine W.rseq (k := 10) rfl fun K hK => ?_
    by_cases hz : 0 ≤ s.n
    · simp only [go_sem, e3, e5, e1, hz]
      refine hK _ _ _ ?_
      clear hK K
      refine W.ret ?_
      simp only [go_sem]
      simp [there, hz, em]
    · simp only [go_sem, e3, e5, e1, hz]
      refine hK _ _ _ ?_
      clear hK K
      refine W.ret ?_
      simp only [go_sem]
      simp [there, hz]
  clear hK
  refine W.rseq (k := 2) rfl fun K' hK => ?_
  simp only [go_sem]
  refine hK _ _ _ ?_
  refine W.cond rfl (fun hc => ?_) fun hc => ?_
  · refine W.region (k := 3) rfl ?_
    simp only [go_sem]
    exact tail _ _ _ _ rfl rfl rfl (by simp [hc])
  · refine W.skip ?_
    simp only [go_sem]
    exact tail _ _ _ _ rfl rfl rfl (by simp [hc])

/-- The first place of what p holds of; -1: none. -/
def idx {α : Type} (p : α → Bool) (l : List α) : Int := if l.any p then (l.findIdx p : Int) else -1

theorem f140 (l : List Sy) (f : FuncId) (caps : List AV) (p : Sy → Bool) (hl : l.length < 2 ^ 60) (hp : ∀ s ∈ l, PF pg Tq f (.agg (eSy s) :: caps) (.bool (p s))) (hz : ∀ s, rfs true 6 h0 (.agg (eSy s) :: caps) = some (.agg (eSy s) :: caps)) :
    PF pg Tq 140 [.ro (l.map eSy), .fn f caps] (.int .i64 (idx p l)) := by
  refine Fi ?_
  refine FH.of (N := 19) (rs := #[.tmp 4]) Try.func140 rfl rfl (of_decide_eq_true rfl) rfl (by decide) ?_
  refine W.rseq (k := 1) rfl fun K hK => ?_
  simp only [go_sem]
  refine hK _ _ _ ?_
  clear hK K
  refine W.seq ?_
  refine W.rseq (k := 3) rfl fun K hK => ?_
  simp only [go_sem]
  refine hK _ _ _ ?_
  clear hK K
  refine W.block (W.while (fun m t h n => ∃ k : Nat, m = l.length - k ∧ k ≤ l.length ∧ t 0 = .ro (l.map eSy) ∧ t 1 = .fn f caps ∧ t 7 = .int .i64 l.length ∧ t 8 = .int .i64 k ∧ ∀ x ∈ l.take k, p x = false) l.length ⟨0, by simp, by simp, rfl, rfl, rfl, rfl, by simp⟩ fun m t h n ⟨k, i1, i2, i3, i4, i5, i6, i7⟩ => ?_)
  refine W.rseq (k := 1) rfl fun K hK => ?_
  simp only [go_sem, i5, i6]
  refine hK _ _ _ ?_
  clear hK K
  refine W.seq ?_
  refine W.cond rfl (fun hc => ?_) fun hc => ?_
  · refine W.skip ?_
    simp only [go_sem]
    have hk : k < l.length := by simp at hc; omega
    obtain ⟨x, hx⟩ := get_some hk
    have hm : x ∈ l := List.mem_of_getElem? hx
    refine W.seq (W.block ?_)
    refine W.rseq (k := 2) rfl fun K hK => ?_
    simp only [go_sem, i6]
    refine hK _ _ _ ?_
    clear hK K
    refine W.rseq (k := 6) rfl fun K hK => ?_
    simp only [go_sem, i3, i4, hx]
    refine VCall.frz 6 (hp x hm) (hz x) ?_
    try simp only [go_sem, i3, i4, hx]
    refine hK _ _ _ ?_
    clear hK K
    refine W.cond rfl (fun hc2 => ?_) fun hc2 => ?_
    · refine W.rseq (k := 2) rfl fun K hK => ?_
      simp only [go_sem]
      refine hK _ _ _ ?_
      clear hK K
      refine W.ret ?_
      simp only [go_sem]
      have : idx p l = k := by
        have h1 : l.any p = true := List.any_eq_true.2 ⟨x, hm, hc2⟩
        have h2 : l.findIdx p = k := by
          rw [List.findIdx_eq hk]
          refine ⟨by rw [(List.getElem_eq_iff hk).2 hx]; exact hc2, fun j hj => ?_⟩
          exact i7 _ (List.mem_take_iff_getElem.2 ⟨j, by omega, rfl⟩)
        simp [idx, h1, h2]
      simp [this]
    · refine W.skip ?_
      simp only [go_sem]
      refine W.region (k := 2) rfl ?_
      simp only [go_sem, i6]
      refine ⟨l.length - (k + 1), by omega, k + 1, rfl, by omega, i3, i4, i5, ?_, ?_⟩
      · rw [wrap64 (by omega) (by omega)]; rfl
      · intro y hy
        rw [List.take_add_one, hx] at hy
        simp at hy
        rcases hy with hy | rfl
        · exact i7 y hy
        · exact hc2
  · refine W.exit ?_
    simp only [go_sem]
    refine W.rseq (k := 1) rfl fun K hK => ?_
    simp only [go_sem]
    refine hK _ _ _ ?_
    clear hK K
    refine W.ret ?_
    simp only [go_sem]
    have hk : ¬ k < l.length := by simp at hc; omega
    rw [List.take_of_length_le (by omega)] at i7
    have h1 : l.any p = false := by simpa using i7
    simp [idx, h1]

theorem f121 (l : List Sy) (f : FuncId) (caps : List AV) (p : Sy → Bool) (hl : l.length < 2 ^ 60) (hp : ∀ s ∈ l, PF pg Tq f (.agg (eSy s) :: caps) (.bool (p s))) (hz : ∀ s, rfs true 6 h0 (.agg (eSy s) :: caps) = some (.agg (eSy s) :: caps)) (hz2 : rfs true 6 h0 [.ro (l.map eSy), .fn f caps] = some [.ro (l.map eSy), .fn f caps]) :
    PF pg Tq 121 [.ro (l.map eSy), .fn f caps] (.bool (l.any p)) := by
  refine Fb ?_
  refine FH.of (N := 9) (rs := #[.tmp 4]) Try.func121 rfl rfl (of_decide_eq_true rfl) rfl (by decide) ?_
  refine W.rseq (k := 1) rfl fun K hK => ?_
  simp only [go_sem]
  refine hK _ _ _ ?_
  clear hK K
  refine W.rseq (k := 5) rfl fun K hK => ?_
  simp only [go_sem]
  refine VCall.frz 6 (f140 l f caps p hl hp hz) hz2 ?_
  try simp only [go_sem]
  refine hK _ _ _ ?_
  clear hK K
  refine W.ret ?_
  simp only [go_sem]
  by_cases h1 : l.any p <;> simp [idx, h1]

theorem f137 (l : List Pr) (f : FuncId) (caps : List AV) (p : Pr → Bool) (hl : l.length < 2 ^ 60) (hp : ∀ s ∈ l, PF pg Tq f (.agg (ePr s) :: caps) (.bool (p s))) (hz : ∀ s, rfs true 6 h0 (.agg (ePr s) :: caps) = some (.agg (ePr s) :: caps)) :
    PF pg Tq 137 [.ro (l.map ePr), .fn f caps] (.int .i64 (idx p l)) := by
  refine Fi ?_
  refine FH.of (N := 19) (rs := #[.tmp 4]) Try.func137 rfl rfl (of_decide_eq_true rfl) rfl (by decide) ?_
  refine W.rseq (k := 1) rfl fun K hK => ?_
  simp only [go_sem]
  refine hK _ _ _ ?_
  clear hK K
  refine W.seq ?_
  refine W.rseq (k := 3) rfl fun K hK => ?_
  simp only [go_sem]
  refine hK _ _ _ ?_
  clear hK K
  refine W.block (W.while (fun m t h n => ∃ k : Nat, m = l.length - k ∧ k ≤ l.length ∧ t 0 = .ro (l.map ePr) ∧ t 1 = .fn f caps ∧ t 7 = .int .i64 l.length ∧ t 8 = .int .i64 k ∧ ∀ x ∈ l.take k, p x = false) l.length ⟨0, by simp, by simp, rfl, rfl, rfl, rfl, by simp⟩ fun m t h n ⟨k, i1, i2, i3, i4, i5, i6, i7⟩ => ?_)
  refine W.rseq (k := 1) rfl fun K hK => ?_
  simp only [go_sem, i5, i6]
  refine hK _ _ _ ?_
  clear hK K
  refine W.seq ?_
  refine W.cond rfl (fun hc => ?_) fun hc => ?_
  · refine W.skip ?_
    simp only [go_sem]
    have hk : k < l.length := by simp at hc; omega
    obtain ⟨x, hx⟩ := get_some hk
    have hm : x ∈ l := List.mem_of_getElem? hx
    refine W.seq (W.block ?_)
    refine W.rseq (k := 2) rfl fun K hK => ?_
    simp only [go_sem, i6]
    refine hK _ _ _ ?_
    clear hK K
    refine W.rseq (k := 6) rfl fun K hK => ?_
    simp only [go_sem, i3, i4, hx]
    refine VCall.frz 6 (hp x hm) (hz x) ?_
    try simp only [go_sem, i3, i4, hx]
    refine hK _ _ _ ?_
    clear hK K
    refine W.cond rfl (fun hc2 => ?_) fun hc2 => ?_
    · refine W.rseq (k := 2) rfl fun K hK => ?_
      simp only [go_sem]
      refine hK _ _ _ ?_
      clear hK K
      refine W.ret ?_
      simp only [go_sem]
      have : idx p l = k := by
        have h1 : l.any p = true := List.any_eq_true.2 ⟨x, hm, hc2⟩
        have h2 : l.findIdx p = k := by
          rw [List.findIdx_eq hk]
          refine ⟨by rw [(List.getElem_eq_iff hk).2 hx]; exact hc2, fun j hj => ?_⟩
          exact i7 _ (List.mem_take_iff_getElem.2 ⟨j, by omega, rfl⟩)
        simp [idx, h1, h2]
      simp [this]
    · refine W.skip ?_
      simp only [go_sem]
      refine W.region (k := 2) rfl ?_
      simp only [go_sem, i6]
      refine ⟨l.length - (k + 1), by omega, k + 1, rfl, by omega, i3, i4, i5, ?_, ?_⟩
      · rw [wrap64 (by omega) (by omega)]; rfl
      · intro y hy
        rw [List.take_add_one, hx] at hy
        simp at hy
        rcases hy with hy | rfl
        · exact i7 y hy
        · exact hc2
  · refine W.exit ?_
    simp only [go_sem]
    refine W.rseq (k := 1) rfl fun K hK => ?_
    simp only [go_sem]
    refine hK _ _ _ ?_
    clear hK K
    refine W.ret ?_
    simp only [go_sem]
    have hk : ¬ k < l.length := by simp at hc; omega
    rw [List.take_of_length_le (by omega)] at i7
    have h1 : l.any p = false := by simpa using i7
    simp [idx, h1]

theorem f118 (l : List Pr) (f : FuncId) (caps : List AV) (p : Pr → Bool) (hl : l.length < 2 ^ 60) (hp : ∀ s ∈ l, PF pg Tq f (.agg (ePr s) :: caps) (.bool (p s))) (hz : ∀ s, rfs true 6 h0 (.agg (ePr s) :: caps) = some (.agg (ePr s) :: caps)) (hz2 : rfs true 6 h0 [.ro (l.map ePr), .fn f caps] = some [.ro (l.map ePr), .fn f caps]) :
    PF pg Tq 118 [.ro (l.map ePr), .fn f caps] (.bool (l.any p)) := by
  refine Fb ?_
  refine FH.of (N := 9) (rs := #[.tmp 4]) Try.func118 rfl rfl (of_decide_eq_true rfl) rfl (by decide) ?_
  refine W.rseq (k := 1) rfl fun K hK => ?_
  simp only [go_sem]
  refine hK _ _ _ ?_
  clear hK K
  refine W.rseq (k := 5) rfl fun K hK => ?_
  simp only [go_sem]
  refine VCall.frz 6 (f137 l f caps p hl hp hz) hz2 ?_
  try simp only [go_sem]
  refine hK _ _ _ ?_
  clear hK K
  refine W.ret ?_
  simp only [go_sem]
  by_cases h1 : l.any p <;> simp [idx, h1]


theorem f139 (g : Gr) (s : Sy) : PF pg Tq 139 [.agg (eSy s), .rp (eGr g) 0] (.bool (!there g s)) := by
  refine Fb ?_
  refine FH.of (N := 8) (rs := #[.tmp 3]) Try.func139 rfl rfl (of_decide_eq_true rfl) rfl (by decide) ?_
  refine W.rseq (k := 2) rfl fun K hK => ?_
  simp only [go_sem]
  refine hK _ _ _ ?_
  clear hK K
  refine W.rseq (k := 5) rfl fun K hK => ?_
  simp only [go_sem]
  refine VCall.frz 6 (f138 g s) rfl ?_
  try simp only [go_sem]
  refine hK _ _ _ ?_
  clear hK K
  refine W.ret ?_
  simp only [go_sem]

def fitsP (g : Gr) (p : Pr) : Bool := there g ⟨true, p.left⟩ && decide (p.right.length ≤ 8) && !(p.right.any fun s => !there g s)

theorem f120 (g : Gr) (p : Pr) (hp : p.right.length < 2 ^ 60) : PF pg Tq 120 [.agg (eGr g), .agg (ePr p)] (.bool (fitsP g p)) := by
  refine Fb ?_
  refine FH.of (N := 23) (rs := #[.tmp 4]) Try.func120 rfl rfl (of_decide_eq_true rfl) rfl (by decide) ?_
  refine W.rseq (k := 3) rfl fun K hK => ?_
  simp only [go_sem]
  refine hK _ _ _ ?_
  clear hK K
  refine W.rseq (k := 19) rfl fun K hK => ?_
  simp only [go_sem]
  refine VCall.frz 6 (f138 g ⟨true, p.left⟩) rfl ?_
  cases h1 : there g ⟨true, p.left⟩
  · simp only [go_sem]
    refine hK _ _ _ ?_
    clear hK K
    refine W.ret ?_
    simp only [go_sem]
    simp [fitsP, h1]
  by_cases h2 : p.right.length ≤ 8
  · simp only [go_sem, show ((p.right.length : Int) ≤ 8) by omega]
    refine VCall.frzq 6 rfl (f121 p.right 139 [.rp (eGr g) 0] (fun s => !there g s) hp (fun s _ => f139 g s) (fun _ => rfl) rfl) ?_
    simp only [go_sem]
    refine hK _ _ _ ?_
    clear hK K
    refine W.ret ?_
    simp only [go_sem]
    simp [fitsP, h1, h2]
  · simp only [go_sem, show ¬ ((p.right.length : Int) ≤ 8) by omega]
    refine hK _ _ _ ?_
    clear hK K
    refine W.ret ?_
    simp only [go_sem]
    simp [fitsP, h1, h2]

theorem f119 (g : Gr) (p : Pr) (hp : p.right.length < 2 ^ 60) : PF pg Tq 119 [.agg (ePr p), .rp (eGr g) 0] (.bool (!fitsP g p)) := by
  refine Fb ?_
  refine FH.of (N := 8) (rs := #[.tmp 3]) Try.func119 rfl rfl (of_decide_eq_true rfl) rfl (by decide) ?_
  refine W.rseq (k := 2) rfl fun K hK => ?_
  simp only [go_sem]
  refine hK _ _ _ ?_
  clear hK K
  refine W.rseq (k := 5) rfl fun K hK => ?_
  simp only [go_sem]
  refine VCall.frz 6 (f120 g p hp) rfl ?_
  try simp only [go_sem]
  refine hK _ _ _ ?_
  clear hK K
  refine W.ret ?_
  simp only [go_sem]

end Go.Av

