/-
  Texts V1, V2, V3, V4 of this work, one behind the other. Conditions: none.
-/
import Derived.Test.YtjpkjbobcicfoaaGreatDoorU4
import Derived.Test.YtjpkjbobcicfoaaGreatDoorC13
import Derived.Test.YtjpkjbobcicfoaaGreatDoorCC
import Derived.Test.YtjpkjbobcicfoaaGreatDoorG1
import Derived.Test.YtjpkjbobcicfoaaGreatDoorD1
set_option linter.unusedSimpArgs false
set_option linter.unusedVariables false
namespace Go.Av
open Go.Proofs
set_option maxRecDepth 100000
end Go.Av
namespace Go.Av
open Go.Proofs
set_option maxRecDepth 100000
def seek (p : Nat → Bool) : Nat → Nat → Option Nat
  | 0, _ => none
  | n + 1, i => if p i then some i else seek p n (i + 1)
theorem seek_none {p : Nat → Bool} : ∀ {n i : Nat}, seek p n i = none → ∀ j, i ≤ j → j < i + n → p j = false
  | 0, i, _, j, h1, h2 => by omega
  | n + 1, i, h, j, h1, h2 => by
    rw [seek] at h
    cases hp : p i
    · rw [hp] at h
      by_cases e : j = i
      · rw [e, hp]
      · exact seek_none (n := n) h j (by omega) (by omega)
    · rw [hp] at h; cases h
def sk (o : Option Nat) : Int := match o with
  | some i => i
  | none => -1
def zR (l : List Fc) (i : Nat) : Bool := decide (rk l i = 0)
noncomputable def checkL (g : Gr) : Int × Int :=
  if right g then match seek (zR (ranksL g true)) g.nons.toNat 0 with
    | some i => (i, 8)
    | none => match seek (zR (reachL g)) g.nons.toNat 0 with
      | some i => (i, 9)
      | none => match seek (cycB g) g.nons.toNat 0 with
        | some i => (i, 10)
        | none => (0, 0)
  else (0, 1)
theorem wb_pos {g : Gr} {i : Nat} {l : List Lf} (h : Wb g i l) : decide ((l.length : Int) > 0) = cycB g i := by
  obtain ⟨_, ⟨rfl, h⟩ | ⟨h1, h2⟩⟩ := h
  · cases hc : cycB g i
    · rfl
    · exact absurd (cycB_iff.1 hc) h
  · rw [cycB_iff.2 ⟨l, h1, h2⟩]
    have := List.length_pos_iff.2 h1
    simpa using this
set_option maxHeartbeats 4000000 in
theorem fz73 (g : Gr) (hg : g.Small) (hr : right g = true) : ∃ w : Nat, w < 2 ^ 32 ∧ (∀ i, i < g.nons.toNat → w.testBit i = cycB g i) ∧ PF pg Tq 73 [.agg (eGr g)] (.int .u32 w) := by
  obtain ⟨⟨hn1, hn2⟩, _, _, hp60, h5⟩ := right_in hr
  obtain ⟨M, hM⟩ : ∃ M, M = g.nons.toNat := ⟨_, rfl⟩
  have hMn : g.nons = (M : Int) := by omega
  rw [← hM]
  have fin : FH pg Tq 73 [.agg (eGr g)] h0 0 fun r h n => ∃ w : Nat, w < 2 ^ 32 ∧ (∀ i, i < M → w.testBit i = cycB g i) ∧ r = .int .u32 w := by
    refine FH.of (N := 24) (rs := #[.tmp 2]) Tryz.func73 rfl rfl (of_decide_eq_true rfl) rfl (by decide) ?_
    refine W.rseq (k := 2) rfl fun K hK => ?_; simp only [go_sem]; refine hK _ _ _ ?_; clear hK K; refine W.rseq (k := 1) rfl fun K hK => ?_; simp only [go_sem]; refine hK _ _ _ ?_; clear hK K; refine W.seq ?_; refine W.rseq (k := 3) rfl fun K hK => ?_; simp only [go_sem]; refine hK _ _ _ ?_; clear hK K
    refine W.block (W.while (fun m t h n => ∃ (i w : Nat), m = M - i ∧ i ≤ M ∧ 0 < n ∧ w < 2 ^ 32 ∧ (∀ j, w.testBit j = (decide (j < i) && cycB g j)) ∧ h 0 = some (.cells [eGr g]) ∧ (t 1 = .ptr 0 0 0 ∧ t 6 = .int .i64 M) ∧ t 3 = .int .u32 w ∧ t 7 = .int .i64 i) M
      ⟨0, 0, by simp, by simp, by omega, by decide, by simp, by simp only [go_sem], ⟨rfl, by simp only [go_sem, hMn]⟩, rfl, rfl⟩ fun m t h n ⟨i, w, i1, i2, i3, i4, i5, i6, i7, i8, i9⟩ => ?_)
    have i7' := i7
    obtain ⟨a1, a6⟩ := i7'
    refine W.rseq (k := 1) rfl fun K hK => ?_; simp only [go_sem, a6, i9]; refine hK _ _ _ ?_; clear hK K; refine W.seq ?_
    refine W.cond rfl (fun hc => ?_) fun hc => ?_
    · refine W.skip ?_; simp only [go_sem]
      have hi : i < M := by simp at hc; omega
      obtain ⟨l, hp, hw⟩ := fz142 g hg hr i (by omega)
      have zn : ∀ j, ¬ 0 = n + j := fun j => by omega
      refine W.seqk fun K hK => ?_
      have nx : ∀ (t' : Fr) (h' : Heap) (n' w : Nat), 0 < n' → w < 2 ^ 32 → (∀ j, w.testBit j = (decide (j < i + 1) && cycB g j)) → h' 0 = some (.cells [eGr g]) → (t' 1 = .ptr 0 0 0 ∧ t' 6 = .int .i64 M) → t' 3 = .int .u32 w → t' 7 = .int .i64 i → K t' h' n' := by
        intro t' h' n' w e1 e2 e3 e4 e5 e6 e7; refine hK _ _ _ ?_; clear hK K; refine W.region (k := 2) rfl ?_; simp only [go_sem, e7]
        refine ⟨M - (i + 1), by omega, i + 1, w, rfl, by omega, by omega, e2, e3, e4, e5, e6, ?_⟩
        rw [wrap64 (by omega) (by omega)]; rfl
      clear hK; refine W.block ?_; refine W.rseq (k := 2) rfl fun K hK => ?_; simp only [go_sem, i9]; refine hK _ _ _ ?_; clear hK K; refine W.seq ?_; refine W.rseq (k := 3) rfl fun K hK => ?_; simp only [go_sem, a1, i6]; refine VCall.frz 6 (fz57 g hg) rfl ?_; simp only [go_sem, hr]; refine hK _ _ _ ?_
      first | clear hK K | clear hK | skip
      refine W.condF (by simp only [go_sem]) ?_; refine W.skip ?_; simp only [go_sem]; refine W.rseq (k := 5) rfl fun K hK => ?_; simp only [go_sem, a1, i6]; refine VCall.frz 6 hp rfl ?_; simp only [go_sem]; refine hK _ _ _ ?_
      first | clear hK K | clear hK | skip
      cases hcy : cycB g i
      · refine W.condF (by simp only [go_sem]; rw [wb_pos hw, hcy]) ?_
        refine W.skip ?_; simp only [go_sem]
        refine nx _ _ _ w (by omega) i4 (fun j => ?_) i6 ⟨a1, a6⟩ i8 i9
        rw [i5 j]
        by_cases e : j = i
        · rw [e, hcy]; simp
        · rw [show decide (j < i + 1) = decide (j < i) from decide_eq_decide.2 (by omega)]
      · refine W.condT (by simp only [go_sem]; rw [wb_pos hw, hcy]) ?_
        refine W.region (k := 5) rfl ?_; simp only [go_sem, i8, shl32 (show i < 32 by omega), or32 i4 (Nat.pow_lt_pow_right (by decide) (show i < 32 by omega))]
        refine nx _ _ _ (w ||| 2 ^ i) (by omega) (Nat.or_lt_two_pow i4 (Nat.pow_lt_pow_right (by decide) (by omega))) (fun j => ?_) i6 ⟨a1, a6⟩ rfl i9
        rw [Nat.testBit_or, i5 j, Nat.testBit_two_pow]
        by_cases e : i = j
        · subst e; rw [hcy]; simp
        · rw [show decide (j < i + 1) = decide (j < i) from decide_eq_decide.2 (by omega), decide_eq_false e, Bool.or_false]
    · refine W.exit ?_; simp only [go_sem]
      have hi : i = M := by simp at hc; omega
      refine W.rseq (k := 2) rfl fun K hK => ?_; simp only [go_sem, i8]; refine hK _ _ _ ?_; clear hK K; refine W.ret ?_; simp only [go_sem]
      exact ⟨w, i4, fun j hj => by rw [i5 j, decide_eq_true (by omega)]; rfl, rfl⟩
  obtain ⟨r, h', n', hb, w, w1, w2, rfl⟩ := fin
  exact ⟨w, w1, w2, _, h', n', hb, 1, fun fr => rfl⟩
theorem fz69 (f : Fc) : PF pg Tq 69 [.agg (eFc f)] (.bool (decide (f.1 = 0))) := by
  refine Fb ?_
  refine FH.of (N := 6) (rs := #[.tmp 2]) Tryz.func69 rfl rfl (of_decide_eq_true rfl) rfl (by decide) ?_
  refine W.rseq (k := 2) rfl fun K hK => ?_; simp only [go_sem]; refine hK _ _ _ ?_; clear hK K; refine W.rseq (k := 4) rfl fun K hK => ?_; simp only [go_sem]; refine hK _ _ _ ?_; clear hK K; refine W.ret ?_; simp only [go_sem]
set_option maxHeartbeats 4000000 in
theorem fz70 (l : List Fc) (hl : l.length < 2 ^ 40) : PF pg Tq 70 [.ro (l.map eFc), .fn 69 []] (.int .i64 (sk (seek (zR l) l.length 0))) := by
  have fin : FH pg Tq 70 [.ro (l.map eFc), .fn 69 []] h0 0 fun r h n => r = .int .i64 (sk (seek (zR l) l.length 0)) := by
    refine FH.of (N := 19) (rs := #[.tmp 4]) Tryz.func70 rfl rfl (of_decide_eq_true rfl) rfl (by decide) ?_
    refine W.rseq (k := 1) rfl fun K hK => ?_; simp only [go_sem]; refine hK _ _ _ ?_; clear hK K; refine W.seq ?_; refine W.rseq (k := 3) rfl fun K hK => ?_; simp only [go_sem]; refine hK _ _ _ ?_; clear hK K
    refine W.block (W.while (fun m t h n => ∃ j : Nat, m = l.length - j ∧ j ≤ l.length ∧ seek (zR l) (l.length - j) j = seek (zR l) l.length 0 ∧ (t 0 = .ro (l.map eFc) ∧ t 1 = .fn 69 [] ∧ t 7 = .int .i64 l.length) ∧ t 8 = .int .i64 j) l.length
      ⟨0, by simp, by simp, by simp, ⟨rfl, rfl, by simp only [go_sem]⟩, rfl⟩ fun m t h n ⟨j, i1, i2, i3, i6, i7⟩ => ?_)
    have i6' := i6
    obtain ⟨a0, a1, a7⟩ := i6'
    refine W.rseq (k := 1) rfl fun K hK => ?_; simp only [go_sem, a7, i7]; refine hK _ _ _ ?_; clear hK K; refine W.seq ?_
    refine W.cond rfl (fun hc => ?_) fun hc => ?_
    · refine W.skip ?_; simp only [go_sem]
      have hj : j < l.length := by simp at hc; omega
      obtain ⟨f, hf⟩ := get_some hj
      have hz : zR l j = decide (f.1 = 0) := by rw [zR, rk, Int.toNat_natCast, List.getD_eq_getElem?_getD, hf]; rfl
      rw [show l.length - j = (l.length - (j + 1)) + 1 by omega, seek, hz] at i3
      refine W.seq (W.block ?_)
      refine W.rseq (k := 2) rfl fun K hK => ?_; simp only [go_sem, i7]; refine hK _ _ _ ?_; clear hK K; refine W.rseq (k := 6) rfl fun K hK => ?_; simp only [go_sem, a0, a1, i7, hf]; refine VCall.frz 6 (fz69 f) rfl ?_; simp only [go_sem]; refine hK _ _ _ ?_
      first | clear hK K | clear hK | skip
      by_cases e : f.1 = 0
      · rw [if_pos (by simpa using e)] at i3
        refine W.condT (by simp only [go_sem, e]) ?_; refine W.rseq (k := 2) rfl fun K hK => ?_; simp only [go_sem]; refine hK _ _ _ ?_; clear hK K; refine W.ret ?_; simp only [go_sem]
        rw [← i3]; rfl
      · rw [if_neg (by simpa using e)] at i3
        refine W.condF (by simp only [go_sem, decide_eq_false e]) ?_; refine W.skip ?_; simp only [go_sem]; refine W.region (k := 2) rfl ?_; simp only [go_sem, i7]
        refine ⟨l.length - (j + 1), by omega, j + 1, rfl, by omega, i3, ⟨a0, a1, a7⟩, ?_⟩
        rw [wrap64 (by omega) (by omega)]; rfl
    · refine W.exit ?_; simp only [go_sem]
      have hj : j = l.length := by simp at hc; omega
      rw [hj, Nat.sub_self, seek] at i3
      refine W.rseq (k := 1) rfl fun K hK => ?_; simp only [go_sem]; refine hK _ _ _ ?_; clear hK K; refine W.ret ?_; simp only [go_sem]
      rw [← i3]; rfl
  obtain ⟨r, h', n', hb, rfl⟩ := fin
  exact ⟨_, h', n', hb, 1, fun fr => rfl⟩
end Go.Av
namespace Go.Av
open Go.Proofs
set_option maxRecDepth 100000
theorem bit_is1 {x t : Nat} : decide (((x / 2 ^ t % 2 : Nat) : Int) = 1) = x.testBit t := by
  rw [Nat.testBit_eq_decide_div_mod_eq]
  have := Nat.mod_lt (x / 2 ^ t) (show 0 < 2 by decide)
  by_cases h : x / 2 ^ t % 2 = 1
  · simp [h]
  · have h0 : x / 2 ^ t % 2 = 0 := by omega
    simp [h0]
theorem sk_neg {o : Option Nat} : decide (sk o ≥ 0) = o.isSome := by
  cases o with
  | none => rfl
  | some i => simp [sk]
set_option maxHeartbeats 4000000 in
theorem fz26 (g : Gr) (hg : g.Small) : PF pg Tq 26 [.agg (eGr g)] (.tup [.int .i64 (checkL g).1, .int .i64 (checkL g).2]) := by
  have fin : FH pg Tq 26 [.agg (eGr g)] h0 0 fun r h n => r = .tup [.int .i64 (checkL g).1, .int .i64 (checkL g).2] := by
    refine FH.of (N := 40) (rs := #[.tmp 2, .tmp 3]) Tryz.func26 rfl rfl (of_decide_eq_true rfl) rfl (by decide) ?_
    refine W.rseq (k := 3) rfl fun K hK => ?_; simp only [go_sem]; refine hK _ _ _ ?_; clear hK K; refine W.seq ?_; refine W.rseq (k := 3) rfl fun K hK => ?_; simp only [go_sem]; refine VCall.frz 6 (fz57 g hg) rfl ?_; try simp only [go_sem]; refine hK _ _ _ ?_; clear hK K
    cases hr : right g
    · refine W.condT (by simp only [go_sem, hr]) ?_; refine W.rseq (k := 2) rfl fun K hK => ?_; simp only [go_sem]; refine hK _ _ _ ?_; clear hK K; refine W.ret ?_; simp only [go_sem]
      rw [checkL, hr]; rfl
    refine W.condF (by simp only [go_sem, hr]) ?_; refine W.skip ?_; simp only [go_sem]
    obtain ⟨⟨hn1, hn2⟩, _, _, hp60, h5⟩ := right_in hr
    obtain ⟨M, hM⟩ : ∃ M, M = g.nons.toNat := ⟨_, rfl⟩
    have hMn : g.nons = (M : Int) := by omega
    have hl1 : (ranksL g true).length = M := by have := (ranks_fin (terms := true) hr).1; omega
    have hl2 : (reachL g).length = M := by have := (reach_fin hr).1; omega
    have hce : checkL g = match seek (zR (ranksL g true)) M 0 with
      | some i => ((i : Int), 8)
      | none => match seek (zR (reachL g)) M 0 with
        | some i => ((i : Int), 9)
        | none => match seek (cycB g) M 0 with
          | some i => ((i : Int), 10)
          | none => (0, 0) := by rw [checkL, hr, ← hM]; rfl
    have h1 := fz70 (ranksL g true) (by omega)
    have h2 := fz70 (reachL g) (by omega)
    rw [hl1] at h1
    rw [hl2] at h2
    obtain ⟨w, w1, w2, h3⟩ := fz73 g hg hr
    rw [← hM] at w2
    refine W.rseq (k := 1) rfl fun K hK => ?_; simp only [go_sem]; refine hK _ _ _ ?_; clear hK K; refine W.seq ?_; refine W.rseq (k := 5) rfl fun K hK => ?_; simp only [go_sem]; refine VCall.frz 6 (OwnFc.pf (fz71 g hg)) rfl ?_; simp only [go_sem]; refine VCall.frz 6 h1 rfl ?_; simp only [go_sem]; refine hK _ _ _ ?_
    first | clear hK K | clear hK | skip
    refine W.rseq (k := 2) rfl fun K hK => ?_; simp only [go_sem]; refine hK _ _ _ ?_; clear hK K
    cases hs1 : seek (zR (ranksL g true)) M 0 with
    | some i =>
      refine W.condT (by simp only [go_sem]; rw [sk_neg]; rfl) ?_
      refine W.rseq (k := 3) rfl fun K hK => ?_; simp only [go_sem]; refine hK _ _ _ ?_; clear hK K; refine W.ret ?_; simp only [go_sem]
      rw [hce, hs1]; rfl
    | none =>
    refine W.condF (by simp only [go_sem]; rw [sk_neg]; rfl) ?_
    refine W.skip ?_; simp only [go_sem]; refine W.seq ?_; refine W.rseq (k := 5) rfl fun K hK => ?_; simp only [go_sem]; refine VCall.frz 6 (OwnFc.pf (fz72 g hg)) rfl ?_; simp only [go_sem]; refine VCall.frz 6 h2 rfl ?_; simp only [go_sem]; refine hK _ _ _ ?_
    first | clear hK K | clear hK | skip
    refine W.rseq (k := 2) rfl fun K hK => ?_; simp only [go_sem]; refine hK _ _ _ ?_; clear hK K
    cases hs2 : seek (zR (reachL g)) M 0 with
    | some i =>
      refine W.condT (by simp only [go_sem]; rw [sk_neg]; rfl) ?_
      refine W.rseq (k := 3) rfl fun K hK => ?_; simp only [go_sem]; refine hK _ _ _ ?_; clear hK K; refine W.ret ?_; simp only [go_sem]
      rw [hce, hs1, hs2]; rfl
    | none =>
    refine W.condF (by simp only [go_sem]; rw [sk_neg]; rfl) ?_
    refine W.skip ?_; simp only [go_sem]
    rw [hs1, hs2] at hce
    simp only at hce
    refine W.rseq (k := 3) rfl fun K hK => ?_; simp only [go_sem]; refine VCall.frz 6 h3 rfl ?_; try simp only [go_sem]; refine hK _ _ _ ?_; clear hK K; refine W.seq ?_; refine W.rseq (k := 3) rfl fun K hK => ?_; simp only [go_sem]; refine hK _ _ _ ?_; clear hK K
    refine W.block (W.while (fun m t h n => ∃ (i : Nat), m = M - i ∧ i ≤ M ∧ seek (cycB g) (M - i) i = seek (cycB g) M 0 ∧ (t 7 = .int .u32 w ∧ t 29 = .int .i64 M) ∧ t 30 = .int .i64 i) M
      ⟨0, by simp, by simp, by simp, ⟨rfl, by simp only [go_sem, hMn]⟩, rfl⟩ fun m t h n ⟨i, i1, i2, i3, i7, i9⟩ => ?_)
    have i7' := i7
    obtain ⟨a7, a29⟩ := i7'
    refine W.rseq (k := 1) rfl fun K hK => ?_; simp only [go_sem, a29, i9]; refine hK _ _ _ ?_; clear hK K; refine W.seq ?_
    refine W.cond rfl (fun hc => ?_) fun hc => ?_
    · refine W.skip ?_; simp only [go_sem]
      have hi : i < M := by simp at hc; omega
      have hw := w2 i hi
      rw [show M - i = (M - (i + 1)) + 1 by omega, seek] at i3
      refine W.seq (W.block ?_)
      refine W.rseq (k := 2) rfl fun K hK => ?_; simp only [go_sem, i9]; refine hK _ _ _ ?_; clear hK K; refine W.rseq (k := 5) rfl fun K hK => ?_; simp only [go_sem, a7, shr32 (x := w) (show i < 32 by omega), and32 (x := w / 2 ^ i) (Nat.lt_of_le_of_lt (Nat.div_le_self _ _) w1)]; refine hK _ _ _ ?_; clear hK K
      cases hcy : cycB g i
      · rw [hcy] at i3 hw
        refine W.condF (by simp only [go_sem]; rw [bit_is1, hw]) ?_
        refine W.skip ?_; simp only [go_sem]; refine W.region (k := 2) rfl ?_; simp only [go_sem, i9]
        refine ⟨M - (i + 1), by omega, i + 1, rfl, by omega, i3, ⟨a7, a29⟩, ?_⟩
        rw [wrap64 (by omega) (by omega)]; rfl
      · rw [hcy] at i3 hw
        refine W.condT (by simp only [go_sem]; rw [bit_is1, hw]) ?_
        refine W.rseq (k := 3) rfl fun K hK => ?_; simp only [go_sem]; refine hK _ _ _ ?_; clear hK K; refine W.ret ?_; simp only [go_sem]
        rw [hce, ← i3]; rfl
    · refine W.exit ?_; simp only [go_sem]
      have hi : i = M := by simp at hc; omega
      rw [hi, Nat.sub_self, seek] at i3
      refine W.rseq (k := 2) rfl fun K hK => ?_; simp only [go_sem]; refine hK _ _ _ ?_; clear hK K; refine W.ret ?_; simp only [go_sem]
      rw [hce, ← i3]
  obtain ⟨r, h', n', hb, rfl⟩ := fin
  exact ⟨_, h', n', hb, 3, fun fr => rfl⟩
end Go.Av
namespace Go.Av
open Go.Proofs
set_option maxRecDepth 100000
end Go.Av
namespace Go.Av
open Go.Proofs
set_option maxRecDepth 100000
end Go.Av
namespace Go.Av
open Go.Proofs
set_option maxRecDepth 100000
theorem Pth.split {L : List Lf} {b : Nat} {m : List Lf} : ∀ {a : Nat} {l : List Lf}, Pth L a b (l ++ m) → ∃ c, Pth L a c l ∧ Pth L c b m
  | a, [], h => ⟨a, rfl, h⟩
  | a, x :: l, h => by
    obtain ⟨h1, h2, h3⟩ := h
    obtain ⟨c, h4, h5⟩ := Pth.split h3
    exact ⟨c, ⟨h1, h2, h4⟩, h5⟩
def Bst (L : List Lf) (to r a : Nat) (l : List Lf) : Prop :=
  (l ≠ [] → l.length ≤ r ∧ Pth L a to l) ∧ ∀ l', l' ≠ [] → l'.length ≤ r → Pth L a to l' → l ≠ [] ∧ l.length ≤ l'.length
theorem Bst.up {L : List Lf} {to r a : Nat} {l : List Lf} (h : Bst L to r a l) (hl : l ≠ []) : Bst L to (r + 1) a l :=
  ⟨fun _ => ⟨by have := (h.1 hl).1; omega, (h.1 hl).2⟩, fun l' h1 h2 h3 => ⟨hl, by
    by_cases hr : l'.length ≤ r
    · exact (h.2 l' h1 hr h3).2
    · have := (h.1 hl).1; omega⟩⟩
end Go.Av
namespace Go.Av
open Go.Proofs
set_option maxRecDepth 100000
def SlT (h : Heap) (n B : Nat) (v : AV) (l : List Lf) : Prop := SlL eLf 2 h 1 n v l ∧ ∀ b k, v = .sl b 0 k 2 → b ≠ B
theorem SlT.next {h h' : Heap} {n n' B : Nat} {v : AV} {l : List Lf} (s : SlT h n B v l) (hh : ∀ x, x < n → x ≠ B → h' x = h x) (hn : n ≤ n') : SlT h' n' B v l := by
  refine ⟨?_, s.2⟩
  rcases s.1 with c | ⟨b, c1, c2, c3, c4⟩
  · exact .inl c
  · exact .inr ⟨b, c1, c2, by omega, by rw [hh b c3 (s.2 b _ c1)]; exact c4⟩
end Go.Av
namespace Go.Av
open Go.Proofs
set_option maxRecDepth 100000
end Go.Av
