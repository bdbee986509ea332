/-
  Layer 10, the document's answer: round by round. Conditions: none.
-/
import Derived.Test.YtiiogleijmcccaaR2
import Derived.Test.YtiiogleijmcccaaCC
namespace Go.Av
open Go.Proofs
set_option maxRecDepth 100000
set_option linter.unusedSimpArgs false
set_option linter.unusedVariables false

def refQ (rank : Int) (l : List Fc) (non : Nat) (p : Pr) : Bool := stands p non && decide (rk l p.left = rank - 1)

def refN (g : Gr) (rank : Int) (l : List Fc) (non : Nat) : List Fc :=
  if rk l non = 0 then match g.prods.findIdx? (refQ rank l non) with
    | some q => l.set non (rank, (q : Int))
    | none => l
  else l

def refR (g : Gr) (rank : Int) (l : List Fc) : List Fc := (List.range l.length).foldl (refN g rank) l

def refLoop (g : Gr) : Nat → Int → List Fc → List Fc
  | 0, _, l => l
  | f + 1, rank, l => refLoop g f (rank + 1) (refR g rank l)

def reachRef (g : Gr) : List Fc := if right g then refLoop g (g.nons.toNat - 1) 2 (reachI g) else []

theorem refN_len {g : Gr} {rank : Int} {l : List Fc} {non : Nat} : (refN g rank l non).length = l.length := by
  unfold refN
  split
  · split <;> simp
  · rfl

theorem foldN_len {g : Gr} {rank : Int} : ∀ (xs : List Nat) (l : List Fc), (xs.foldl (refN g rank) l).length = l.length
  | [], l => rfl
  | x :: xs, l => by rw [List.foldl_cons, foldN_len xs, refN_len]

theorem refR_len {g : Gr} {rank : Int} {l : List Fc} : (refR g rank l).length = l.length := foldN_len _ _

theorem find_none {α : Type} {q : α → Bool} {l : List α} {i : Nat} (h : ∀ x ∈ l.take i, q x = false) (hi : ¬ i < l.length) : l.findIdx? q = none := by
  rw [List.take_of_length_le (by omega)] at h
  rw [List.findIdx?_eq_none_iff]
  exact h

theorem find_some {α : Type} {q : α → Bool} {l : List α} {i : Nat} {x : α} (h : ∀ x ∈ l.take i, q x = false) (hx : l[i]? = some x) (hq : q x = true) : l.findIdx? q = some i := by
  have hi : i < l.length := (List.getElem?_eq_some_iff.1 hx).1
  rw [List.findIdx?_eq_some_iff_getElem]
  refine ⟨hi, by rw [(List.getElem_eq_iff hi).2 hx]; exact hq, fun j hj => ?_⟩
  have := h _ (List.mem_take_iff_getElem.2 ⟨j, by omega, rfl⟩)
  simp [this]

theorem f39 (g : Gr) (hg : g.Small) : FH pg Tq 39 [.agg (eGr g)] h0 0 fun r h _ => OwnFc (reachRef g) r h := by
  have hg1 : g.prods.length < 2 ^ 60 := hg.1
  refine FH.of (N := 74) (rs := #[.tmp 2]) Try.func39 rfl rfl (of_decide_eq_true rfl) rfl (by decide) ?_
  refine W.rseq (k := 2) rfl fun K hK => ?_
  simp only [go_sem]
  refine hK _ _ _ ?_
  clear hK K
  refine W.seq ?_
  refine W.rseq (k := 3) rfl fun K hK => ?_
  simp only [go_sem]
  refine VCall.frz 6 (f35 g hg) rfl ?_
  try simp only [go_sem]
  refine hK _ _ _ ?_
  clear hK K
  cases hr : right g
  · refine W.condT (by simp only [go_sem]) ?_
    refine W.rseq (k := 1) rfl fun K hK => ?_
    simp only [go_sem]
    refine hK _ _ _ ?_
    clear hK K
    refine W.ret ?_
    simp only [go_sem]
    exact .inl ⟨by simp [reachRef, hr], .inl rfl⟩
  refine W.condF (by simp only [go_sem]) ?_
  refine W.skip ?_
  simp only [go_sem]
  obtain ⟨⟨hn1, hn2⟩, _, ⟨hs1, hs2⟩, hp60, hright⟩ := right_in hr
  refine W.rseq (k := 4) rfl fun K hK => ?_
  simp only [go_sem, show (0 : Int) ≤ g.nons by omega, show g.nons * 16 ≤ 140737488355328 by omega, show (0 : Nat) < 16 by omega, show (0 : Nat) < 2 by omega]
  refine hK _ _ _ ?_
  clear hK K
  have hrep : List.replicate g.nons.toNat [AV.int .i64 0, AV.int .i64 0] = (List.replicate g.nons.toNat ((0, 0) : Fc)).map eFc := by simp [eFc]
  have hget : (List.replicate g.nons.toNat ((0, 0) : Fc))[g.start.toNat]? = some (0, 0) := by
    rw [List.getElem?_replicate, if_pos (by omega)]
  refine W.rseq (k := 6) rfl fun K hK => ?_
  simp only [go_sem, hrep, hget, hs1, show g.start < ((g.nons.toNat : Nat) : Int) by omega, show g.start.toNat < g.nons.toNat by omega, List.length_map, List.length_replicate]
  refine hK _ _ _ ?_
  clear hK K
  obtain ⟨bl, hbl⟩ : ∃ bl, bl = 7 := ⟨_, rfl⟩
  obtain ⟨M, hM⟩ : ∃ M, M = g.nons.toNat := ⟨_, rfl⟩
  have hMn : (M : Int) = g.nons := by omega
  refine W.seq ?_
  refine W.rseq (k := 1) rfl fun K hK => ?_
  simp only [go_sem]
  refine hK _ _ _ ?_
  clear hK K
  refine W.block (W.while (fun m t h n => ∃ (l : List Fc) (rank : Int), l.length = M ∧ 2 ≤ rank ∧ rank + m = M + 1 ∧ refLoop g m rank l = refLoop g (M - 1) 2 (reachI g) ∧ bl < n ∧ t 1 = .ptr 0 0 0 ∧ t 3 = .sl bl 0 l.length 2 ∧ t 4 = .int .i64 rank ∧
      h 0 = some (.cells [eGr g]) ∧ h bl = some (.cells (l.map eFc))) (M - 1)
    ⟨reachI g, 2, by rw [reachI_len, hM], by omega, by omega, rfl, by omega, rfl, by rw [reachI_len, hbl]; rfl, rfl, by simp only [go_sem], by simp only [go_sem, hbl, reachI, List.map_set]⟩ fun m t h n ⟨l, rank, i1, i2, i3, i5, i6, i7, i8, i9, i10, i11⟩ => ?_)
  have hIn : g.In l := right_In hr (by omega)
  refine W.seq ?_
  refine W.rseq (k := 4) rfl fun K hK => ?_
  simp only [go_sem, i7, i9, i10, ← hMn]
  refine hK _ _ _ ?_
  clear hK K
  refine W.cond rfl (fun hc => ?_) fun hc => ?_
  · refine W.skip ?_
    simp only [go_sem]
    have hrk : rank ≤ M := by simpa using hc
    obtain ⟨m', rfl⟩ : ∃ m', m = m' + 1 := ⟨m - 1, by omega⟩
    rw [refLoop] at i5
    refine W.seq (W.block ?_)
    refine W.rseq (k := 1) rfl fun K hK => ?_
    simp only [go_sem]
    refine hK _ _ _ ?_
    clear hK K
    refine W.block (W.while (fun m t h n => ∃ non : Nat, m = M - non ∧ non ≤ M ∧ bl < n ∧ t 1 = .ptr 0 0 0 ∧ t 3 = .sl bl 0 l.length 2 ∧ t 4 = .int .i64 rank ∧ t 5 = .int .i64 non ∧ h 0 = some (.cells [eGr g]) ∧ h bl = some (.cells (((List.range non).foldl (refN g rank) l).map eFc))) M
      ⟨0, by simp, by simp, by omega, i7, i8, i9, rfl, by simp only [go_sem, i10], by simp only [go_sem, i11]; rfl⟩ fun m t h n ⟨non, j1, j2, j3, j4, j5, j6, j7, j8, j9⟩ => ?_)
    refine W.seq ?_
    refine W.rseq (k := 4) rfl fun K hK => ?_
    simp only [go_sem, j4, j7, j8, ← hMn]
    refine hK _ _ _ ?_
    clear hK K
    refine W.cond rfl (fun hc2 => ?_) fun hc2 => ?_
    · refine W.skip ?_
      simp only [go_sem]
      have hnon : non < M := by simp at hc2; omega
      have hfold : (List.range (non + 1)).foldl (refN g rank) l = refN g rank ((List.range non).foldl (refN g rank) l) non := by
        rw [List.range_succ, List.foldl_append]; rfl
      have hlen : ((List.range non).foldl (refN g rank) l).length = l.length := foldN_len _ _
      generalize (List.range non).foldl (refN g rank) l = s at *
      have hIns : g.In s := hIn.of hlen
      refine W.seq (W.block ?_)
      refine W.rseq (k := 1) rfl fun K hK => ?_
      simp only [go_sem]
      refine hK _ _ _ ?_
      clear hK K
      refine W.block (W.while (fun m t h n => ∃ (i : Nat) (c : List Fc), m = g.prods.length - i ∧ i ≤ g.prods.length ∧ bl < n ∧ t 1 = .ptr 0 0 0 ∧ t 3 = .sl bl 0 l.length 2 ∧ t 4 = .int .i64 rank ∧ t 5 = .int .i64 non ∧ t 6 = .int .i64 i ∧ h 0 = some (.cells [eGr g]) ∧ h bl = some (.cells (c.map eFc)) ∧ c.length = l.length ∧
          ((c = s ∧ ∀ p ∈ g.prods.take i, refQ rank s non p = false) ∨ (c = refN g rank s non ∧ rk c non ≠ 0))) g.prods.length
        ⟨0, s, by simp, by simp, by omega, j4, j5, j6, j7, rfl, by simp only [go_sem, j8], by simp only [go_sem, j9], hlen, .inl ⟨rfl, by simp⟩⟩ fun m t h n ⟨i, c, k1, k2, k3, k4, k5, k6, k7, k8, k9, k10, k11, k12⟩ => ?_)
      have hnl : non < c.length := by omega
      obtain ⟨b, hb⟩ := fc_get (l := c) (n := (non : Int)) (by omega) (by omega)
      have hb' : c[non]? = some (rk c non, b) := by simpa using hb
      refine W.seq ?_
      refine W.rseq (k := 13) rfl fun K hK => ?_
      simp only [go_sem, k4, k8, k9]
      by_cases hi : i < g.prods.length
      · have hi' : decide ((i : Int) < (g.prods.length : Int)) = true := by simp [hi]
        obtain ⟨p, hp⟩ := get_some hi
        have hm : p ∈ g.prods := List.mem_of_getElem? hp
        obtain ⟨⟨hl0, hl1⟩, hin⟩ := hIns p hm
        simp only [go_sem, hi', k5, k7, k10, show (non : Int) < (l.length : Int) by omega, hb']
        by_cases c0 : rk c non = 0
        · have k12' : c = s ∧ ∀ p ∈ g.prods.take i, refQ rank s non p = false := by
            rcases k12 with h | h
            · exact h
            · exact (h.2 c0).elim
          obtain ⟨rfl, k13⟩ := k12'
          obtain ⟨b3, hb3⟩ := fc_get hl0 hl1
          have hwr : IntKind.wrap .i64 (rank - 1) = rank - 1 := wrap64 (by omega) (by omega)
          simp only [go_sem, c0]
          refine hK _ _ _ ?_
          clear hK K
          refine W.condT (by simp only [go_sem]) ?_
          refine W.skip ?_
          simp only [go_sem]
          refine W.seq (W.block ?_)
          refine W.rseq (k := 22) rfl fun K hK => ?_
          simp only [go_sem, k4, k7, k8, k9, hp]
          refine VCall.frz 6 (f92 p non (hg.2 p hm)) rfl ?_
          by_cases hq : refQ rank c non p = true
          · have hq' : stands p non = true ∧ rk c p.left = rank - 1 := by simpa [refQ] using hq
            have hset : refN g rank c non = c.set non (rank, (i : Int)) := by
              unfold refN
              rw [if_pos c0, find_some k13 hp hq]
            simp only [go_sem, hq'.1, hq'.2, k4, k5, k6, k8, k9, k10, hp, hwr, hl0, show p.left < (l.length : Int) by omega, hb3]
            refine hK _ _ _ ?_
            clear hK K
            refine W.condT (by simp only [go_sem]) ?_
            refine W.region (k := 7) rfl ?_
            simp only [go_sem, k5, k6, k7, k8, k10, show (non : Int) < (l.length : Int) by omega, hb', show non < c.length by omega]
            refine W.region (k := 3) rfl ?_
            simp only [go_sem, k8]
            refine ⟨g.prods.length - (i + 1), by omega, i + 1, c.set non (rank, (i : Int)), rfl, by omega, by omega, k4, k5, k6, k7, ?_, ?_, ?_, by simpa using k11, .inr ⟨hset.symm, ?_⟩⟩
            · rw [wrap64 (by omega) (by omega)]; rfl
            · simp only [go_sem, show ¬ 0 = bl by omega, k9]
            · simp only [go_sem, List.map_set]
            · rw [rk_set, if_pos ⟨by simp, hnl⟩]; simp only; omega
          · have hq0 : refQ rank c non p = false := by simpa using hq
            have nx : ∀ (t' : Fr) (h' : Heap) (n' : Nat), t' 66 = .bool false → bl < n' → t' 1 = .ptr 0 0 0 → t' 3 = .sl bl 0 l.length 2 → t' 4 = .int .i64 rank → t' 5 = .int .i64 non → t' 6 = .int .i64 i → h' 0 = some (.cells [eGr g]) → h' bl = some (.cells (c.map eFc)) → K t' h' n' := by
              intro t' h' n' y66 y0 y1 y3 y4 y5 y6 yh yl
              refine hK _ _ _ ?_
              clear hK K
              refine W.condF (by simp only [go_sem, y66]) ?_
              refine W.skip ?_
              simp only [go_sem]
              refine W.region (k := 3) rfl ?_
              simp only [go_sem, y6]
              refine ⟨g.prods.length - (i + 1), by omega, i + 1, c, rfl, by omega, by omega, y1, y3, y4, y5, ?_, yh, yl, k11, .inl ⟨rfl, take_snoc_all k13 hp hq0⟩⟩
              rw [wrap64 (by omega) (by omega)]; rfl
            cases hst : stands p non
            · simp only [go_sem]
              exact nx _ _ _ rfl (by omega) k4 k5 k6 k7 k8 k9 k10
            · have hne : decide (rk c p.left = rank - 1) = false := by simpa [refQ, hst] using hq0
              simp only [go_sem, k4, k5, k6, k8, k9, k10, hp, hwr, hl0, show p.left < (l.length : Int) by omega, hb3, hne]
              exact nx _ _ _ rfl (by omega) k4 k5 k6 k7 k8 k9 k10
        · have hce : c = refN g rank s non := by
            rcases k12 with ⟨h, _⟩ | h
            · subst h; unfold refN; rw [if_neg c0]
            · exact h.1
          simp only [go_sem, c0]
          refine hK _ _ _ ?_
          clear hK K
          refine W.condF (by simp only [go_sem]) ?_
          refine W.exit ?_
          simp only [go_sem]
          refine W.region (k := 3) rfl ?_
          simp only [go_sem, k7]
          refine ⟨M - (non + 1), by omega, non + 1, rfl, by omega, by omega, k4, k5, k6, ?_, k9, ?_⟩
          · rw [wrap64 (by omega) (by omega)]; rfl
          · rw [hfold, ← hce]; exact k10
      · have hi' : decide ((i : Int) < (g.prods.length : Int)) = false := by simp; omega
        have hce : c = refN g rank s non := by
          rcases k12 with ⟨h, h2⟩ | h
          · subst h
            unfold refN
            rw [find_none h2 hi]
            split <;> rfl
          · exact h.1
        simp only [go_sem, hi']
        refine hK _ _ _ ?_
        clear hK K
        refine W.condF (by simp only [go_sem]) ?_
        refine W.exit ?_
        simp only [go_sem]
        refine W.region (k := 3) rfl ?_
        simp only [go_sem, k7]
        refine ⟨M - (non + 1), by omega, non + 1, rfl, by omega, by omega, k4, k5, k6, ?_, k9, ?_⟩
        · rw [wrap64 (by omega) (by omega)]; rfl
        · rw [hfold, ← hce]; exact k10
    · refine W.exit ?_
      simp only [go_sem]
      have hnon : non = M := by simp at hc2; omega
      subst hnon
      have e : (List.range non).foldl (refN g rank) l = refR g rank l := by rw [← i1]; rfl
      rw [e] at j9
      refine W.region (k := 3) rfl ?_
      simp only [go_sem, j6]
      refine ⟨m', by omega, refR g rank l, rank + 1, by rw [refR_len]; exact i1, by omega, by omega, i5, by omega, j4, ?_, ?_, j8, j9⟩
      · rw [refR_len]; exact j5
      · rw [wrap64 (by omega) (by omega)]
  · refine W.exit ?_
    simp only [go_sem]
    refine W.rseq (k := 2) rfl fun K hK => ?_
    simp only [go_sem, i8]
    refine hK _ _ _ ?_
    clear hK K
    refine W.ret ?_
    simp only [go_sem]
    have hm : m = 0 := by simp at hc; omega
    subst hm
    rw [refLoop] at i5
    have : reachRef g = l := by rw [reachRef, hr, if_pos rfl, ← hM, ← i5]
    rw [this]
    exact .inr ⟨bl, rfl, i11⟩

end Go.Av

