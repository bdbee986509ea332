/-
  Layer 9, package rank: all rounds. Conditions: none.
-/
import Derived.Test.YtiiogleijmcccaaB6
namespace Go.Av
open Go.Proofs
set_option maxRecDepth 100000
set_option linter.unusedSimpArgs false
set_option linter.unusedVariables false

def loopR (g : Gr) (terms : Bool) : Nat → Int → List Fc → List Fc
  | 0, _, l => l
  | f + 1, rank, l => if (round g rank terms l).2 then loopR g terms f (rank + 1) (round g rank terms l).1 else (round g rank terms l).1

/-- The facts that the package tells. -/
def ranksL (g : Gr) (terms : Bool) : List Fc := if right g then loopR g terms (g.nons.toNat + 1) 1 (List.replicate g.nons.toNat (0, 0)) else []

def zeros (l : List Fc) : Nat := l.countP fun f => f.1 == 0

theorem zeros_set {l : List Fc} {n : Int} {f : Fc} (h0 : 0 ≤ n) (h1 : n < l.length) (hz : rk l n = 0) (hf : f.1 ≠ 0) : zeros (l.set n.toNat f) < zeros l := by
  have hn : n.toNat < l.length := by omega
  have hr : (l[n.toNat]).1 = 0 := by simpa [rk, hn] using hz
  have hpos : 0 < zeros l := by
    unfold zeros
    rw [List.countP_pos_iff]
    exact ⟨l[n.toNat], List.getElem_mem hn, by simp [hr]⟩
  unfold zeros at *
  rw [List.countP_set hn]
  simp [hr, hf]
  omega

theorem foldR_zeros {rank : Int} {terms : Bool} (hr : rank ≠ 0) : ∀ (xs : List (Pr × Nat)) (s : List Fc × Bool), (∀ x ∈ xs, 0 ≤ x.1.left ∧ x.1.left < s.1.length) →
    zeros (xs.foldl (stepR rank terms) s).1 ≤ zeros s.1 ∧ (s.2 = false → (xs.foldl (stepR rank terms) s).2 = true → zeros (xs.foldl (stepR rank terms) s).1 < zeros s.1)
  | [], s, _ => ⟨Nat.le_refl _, fun h1 h2 => by simp [h1] at h2⟩
  | x :: xs, s, h => by
    have ih := foldR_zeros (terms := terms) hr xs (stepR rank terms s x) (fun y hy => by rw [stepR_len]; exact h y (by simp [hy]))
    rw [List.foldl_cons]
    obtain ⟨h0, h1⟩ := h x (by simp)
    by_cases c : rk s.1 x.1.left = 0 ∧ fits x.1 s.1 rank terms = true
    · have e : stepR rank terms s x = (s.1.set x.1.left.toNat (rank, (x.2 : Int)), true) := by simp only [stepR, c, and_self, if_true]
      have hz := zeros_set (f := (rank, (x.2 : Int))) h0 h1 c.1 hr
      rw [e] at ih ⊢
      simp only at ih ⊢
      exact ⟨by omega, fun _ _ => by omega⟩
    · have e : stepR rank terms s x = s := by simp only [stepR, c, if_false]
      rw [e] at ih ⊢
      exact ih

theorem mem_zipIdx {g : Gr} {x : Pr × Nat} (h : x ∈ g.prods.zipIdx) : x.1 ∈ g.prods := List.fst_mem_of_mem_zipIdx h

theorem round_zeros {g : Gr} {rank : Int} {terms : Bool} {l : List Fc} (hr : rank ≠ 0) (hl : g.In l) (h : (round g rank terms l).2 = true) : zeros (round g rank terms l).1 < zeros l :=
  (foldR_zeros hr g.prods.zipIdx (l, false) fun x hx => (hl x.1 (mem_zipIdx hx)).1).2 rfl h

theorem Gr.In.of {g : Gr} {l l' : List Fc} (h : g.In l) (e : l'.length = l.length) : g.In l' := fun p hp => by
  obtain ⟨h1, h2⟩ := h p hp
  exact ⟨by rw [e]; exact h1, h2.of e⟩

/-- A grammar that may be. -/
theorem right_in {g : Gr} (h : right g = true) : (1 ≤ g.nons ∧ g.nons ≤ 24) ∧ (0 ≤ g.terms ∧ g.terms ≤ 16) ∧ (0 ≤ g.start ∧ g.start < g.nons) ∧ g.prods.length ≤ 60 ∧
    ∀ p ∈ g.prods, (0 ≤ p.left ∧ p.left < g.nons) ∧ p.right.length ≤ 8 ∧ ∀ s ∈ p.right, 0 ≤ s.n ∧ s.n < if s.non then g.nons else g.terms := by
  simp only [right, Bool.and_eq_true, Bool.not_eq_true', List.all_eq_true] at h
  obtain ⟨h1, h2⟩ := h
  simp only [bad, Bool.or_eq_false_iff, decide_eq_false_iff_not] at h1
  refine ⟨by omega, by omega, by omega, by omega, fun p hp => ?_⟩
  have := h2 p hp
  simp only [fitsP, there, Bool.and_eq_true, decide_eq_true_eq, Bool.not_eq_true', List.any_eq_false, if_true] at this
  refine ⟨this.1.1, this.1.2, fun s hs => ?_⟩
  have h3 := this.2 s hs
  simpa using h3

theorem right_In {g : Gr} (h : right g = true) {l : List Fc} (hl : (l.length : Int) = g.nons) : g.In l := fun p hp => by
  obtain ⟨_, _, _, _, h5⟩ := right_in h
  obtain ⟨h1, _, h3⟩ := h5 p hp
  refine ⟨by omega, fun s hs hn => ?_⟩
  have := h3 s hs
  rw [hn] at this
  simp at this
  omega

/-- Facts in a block of their own, or none. -/
def OwnFc (l : List Fc) (r : AV) (h : Heap) : Prop := (l = [] ∧ (r = .nils ∨ r = .ro [])) ∨ ∃ b, r = .sl b 0 l.length 2 ∧ h b = some (.cells (l.map eFc))

theorem OwnFc.pf {f : FuncId} {args : List AV} {l : List Fc} (h : FH pg Tq f args h0 0 fun r h _ => OwnFc l r h) : PF pg Tq f args (.ro (l.map eFc)) := by
  obtain ⟨r, h', n', hb, ho⟩ := h
  refine ⟨r, h', n', hb, 4, fun fr => ?_⟩
  rcases ho with ⟨rfl, rfl | rfl⟩ | ⟨b, rfl, hh⟩
  · simp [rf]
  · simp [rf]
  · exact rf_sl hh rfl

theorem VCall.fc {s : Nat} {g : FuncId} {args : List AV} {h : Heap} {x : Nat} {k : Cls → AV → Heap → Nat → Prop} {l : List Fc} (d : Nat) (hf : FH pg Tq g args h0 0 fun r h _ => OwnFc l r h) (hr : rfs true d h0 args = some args)
    (k1 : l = [] → k .L (.ro []) h x) (k2 : k .L (.sl s 0 l.length 2) (upd h s (some (.cells (l.map eFc)))) x) : VCall pg Tq s g args h x k := by
  obtain ⟨r, h', n', hb, ho⟩ := hf
  rcases ho with ⟨rfl, rfl | rfl⟩ | ⟨b, rfl, hh⟩
  · exact .inr (.inl ⟨false, d, 1, args, .nils, .ro [], h', n', hr, hb, by simp [rf], k1 rfl⟩)
  · exact .inr (.inl ⟨false, d, 1, args, .ro [], .ro [], h', n', hr, hb, by simp [rf], k1 rfl⟩)
  · exact .inr (.inr ⟨false, d, 3, args, b, _, 2, _, l.map eFc, h', n', hr, hb, hh, by simp, rfe_fc l, k2⟩)

theorem f85 (g : Gr) (hg : g.Small) (terms : Bool) : FH pg Tq 85 [.agg (eGr g), .bool terms] h0 0 fun r h _ => OwnFc (ranksL g terms) r h := by
  refine FH.of (N := 21) (rs := #[.tmp 4]) Try.func85 rfl rfl (of_decide_eq_true rfl) rfl (by decide) ?_
  refine W.rseq (k := 3) rfl fun K hK => ?_
  simp only [go_sem]
  refine hK _ _ _ ?_
  clear hK K
  refine W.seq ?_
  refine W.rseq (k := 3) rfl fun K hK => ?_
  simp only [go_sem]
  refine VCall.frz 6 (f87 g hg) rfl ?_
  try simp only [go_sem]
  refine hK _ _ _ ?_
  clear hK K
  cases hr : right g
  · refine W.condT (by simp only [go_sem]) ?_
    refine W.rseq (k := 1) rfl fun K hK => ?_
    simp only [go_sem]
    refine hK _ _ _ ?_
    clear hK K
    refine W.ret ?_
    simp only [go_sem]
    exact .inl ⟨by simp [ranksL, hr], .inl rfl⟩
  refine W.condF (by simp only [go_sem]) ?_
  refine W.skip ?_
  simp only [go_sem]
  obtain ⟨⟨hn1, hn2⟩, _⟩ := right_in hr
  have hlen : ((List.replicate g.nons.toNat ((0, 0) : Fc)).length : Int) = g.nons := by simp; omega
  refine W.rseq (k := 5) rfl fun K hK => ?_
  simp only [go_sem, show (0 : Int) ≤ g.nons by omega, show g.nons * 16 ≤ 140737488355328 by omega, show (0 : Nat) < 16 by omega, show (0 : Nat) < 2 by omega]
  refine hK _ _ _ ?_
  clear hK K
  refine W.rseq (k := 2) rfl fun K hK => ?_
  simp only [go_sem]
  refine hK _ _ _ ?_
  clear hK K
  refine W.seq ?_
  refine W.rseq (k := 1) rfl fun K hK => ?_
  simp only [go_sem]
  refine hK _ _ _ ?_
  clear hK K
  refine W.block (W.while (fun m t h n => ∃ (l : List Fc) (rank : Int), l.length = g.nons.toNat ∧ 1 ≤ rank ∧ rank + m ≤ 26 ∧ zeros l < m ∧ loopR g terms m rank l = loopR g terms (g.nons.toNat + 1) 1 (List.replicate g.nons.toNat (0, 0)) ∧ 10 ≤ n ∧ t 5 = .ptr 9 0 0 ∧ t 6 = .fn 117 [.ptr 0 0 0, .ptr 9 0 0, .ptr 1 0 0] ∧ t 7 = .int .i64 rank ∧
      h 0 = some (.cells [eGr g]) ∧ h 9 = some (.cells [[.sl 8 0 l.length 2]]) ∧ h 1 = some (.cells [[.bool terms]]) ∧ h 8 = some (.cells (l.map eFc))) (g.nons.toNat + 1)
    ⟨List.replicate g.nons.toNat (0, 0), 1, by simp, by omega, by omega, Nat.lt_succ_of_le (by simpa [zeros] using List.countP_le_length (p := fun f : Fc => f.1 == 0) (l := List.replicate g.nons.toNat (0, 0))), rfl, by omega, rfl, rfl, rfl, by simp only [go_sem], by simp only [go_sem, List.length_replicate], by simp only [go_sem], by simp only [go_sem, List.map_replicate]⟩ fun m t h n ⟨l, rank, i1, i2, i3, i4, i5, i6, i7, i8, i9, i10, i11, i12, i13⟩ => ?_)
  have hIn : g.In l := right_In hr (by omega)
  refine W.seq ?_
  refine W.rseq (k := 3) rfl fun K hK => ?_
  simp only [go_sem, i8, i9]
  refine VCall.heap (f117 g hg rank terms l hIn 0 9 1 8 (n + 3) h (by omega) (by omega) (by omega) (by omega) (by omega) (by omega) (by omega) i10 i11 i12 i13) fun r h' x' ⟨er, hx, m1, m2, m3, m4⟩ => ?_
  subst er
  simp only [go_sem]
  refine hK _ _ _ ?_
  clear hK K
  obtain ⟨m', rfl⟩ : ∃ m', m = m' + 1 := ⟨m - 1, by omega⟩
  rw [loopR] at i5
  refine W.cond rfl (fun hc => ?_) fun hc => ?_
  · refine W.skip ?_
    simp only [go_sem]
    refine W.seq (W.block ?_)
    refine W.skip ?_
    simp only [go_sem]
    refine W.region (k := 3) rfl ?_
    simp only [go_sem, i9]
    rw [hc] at i5
    have hz := round_zeros (by omega) hIn hc
    refine ⟨m', by omega, (round g rank terms l).1, rank + 1, by rw [round_len]; exact i1, by omega, by omega, by omega, by simpa using i5, by omega, i7, i8, ?_, m1, ?_, m3, m4⟩
    · rw [wrap64 (by omega) (by omega)]
    · rw [round_len]; exact m2
  · refine W.exit ?_
    simp only [go_sem]
    refine W.rseq (k := 2) rfl fun K hK => ?_
    simp only [go_sem, i7, m2]
    refine hK _ _ _ ?_
    clear hK K
    refine W.ret ?_
    simp only [go_sem]
    rw [hc] at i5
    have : ranksL g terms = (round g rank terms l).1 := by
      rw [ranksL, hr, if_pos rfl, ← i5]; simp
    rw [this]
    exact .inr ⟨8, by rw [round_len], m4⟩

theorem f30 (g : Gr) (hg : g.Small) : FH pg Tq 30 [.agg (eGr g)] h0 0 fun r h _ => OwnFc (ranksL g false) r h := by
  refine FH.of (N := 5) (rs := #[.tmp 2]) Try.func30 rfl rfl (of_decide_eq_true rfl) rfl (by decide) ?_
  refine W.rseq (k := 2) rfl fun K hK => ?_
  simp only [go_sem]
  refine hK _ _ _ ?_
  clear hK K
  refine W.rseq (k := 3) rfl fun K hK => ?_
  simp only [go_sem]
  refine VCall.fc 6 (f85 g hg false) rfl (fun hn => ?_) ?_
  · simp only [go_sem]
    refine hK _ _ _ ?_
    clear hK K
    refine W.ret ?_
    simp only [go_sem]
    exact .inl ⟨hn, .inr rfl⟩
  · simp only [go_sem]
    refine hK _ _ _ ?_
    clear hK K
    refine W.ret ?_
    simp only [go_sem]
    exact .inr ⟨_, rfl, by simp only [go_sem]⟩

theorem f32 (g : Gr) (hg : g.Small) : FH pg Tq 32 [.agg (eGr g)] h0 0 fun r h _ => OwnFc (ranksL g true) r h := by
  refine FH.of (N := 5) (rs := #[.tmp 2]) Try.func32 rfl rfl (of_decide_eq_true rfl) rfl (by decide) ?_
  refine W.rseq (k := 2) rfl fun K hK => ?_
  simp only [go_sem]
  refine hK _ _ _ ?_
  clear hK K
  refine W.rseq (k := 3) rfl fun K hK => ?_
  simp only [go_sem]
  refine VCall.fc 6 (f85 g hg true) rfl (fun hn => ?_) ?_
  · simp only [go_sem]
    refine hK _ _ _ ?_
    clear hK K
    refine W.ret ?_
    simp only [go_sem]
    exact .inl ⟨hn, .inr rfl⟩
  · simp only [go_sem]
    refine hK _ _ _ ?_
    clear hK K
    refine W.ret ?_
    simp only [go_sem]
    exact .inr ⟨_, rfl, by simp only [go_sem]⟩

end Go.Av

