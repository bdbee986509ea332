/-
  Layer 9, the document's answer: ranks. Conditions: none.
-/
import Derived.Test.YtiiogleijmcccaaB7
namespace Go.Av
open Go.Proofs
set_option maxRecDepth 100000
set_option linter.unusedSimpArgs false
set_option linter.unusedVariables false

def fits0 (p : Pr) (l : List Fc) (below : Int) (terms : Bool) : Bool := !(p.right.any (off0 l below terms))

/-- A nonterminal's fact after a round, if only productions from j on are looked at. -/
def nextFrom (g : Gr) (l : List Fc) (rank : Int) (terms : Bool) (non j : Nat) : Fc :=
  if rk l non = 0 then match (g.prods.drop j).findIdx? (fun p => decide (p.left = (non : Int)) && fits0 p l rank terms) with
    | some q => (rank, ((q + j : Nat) : Int))
    | none => l.getD non (0, 0)
  else l.getD non (0, 0)

def nextL (g : Gr) (terms : Bool) (rank : Int) (l : List Fc) : List Fc := (List.range l.length).map fun x => nextFrom g l rank terms x 0

def iterR (g : Gr) (terms : Bool) : Nat → Int → List Fc → List Fc
  | 0, _, l => l
  | f + 1, rank, l => iterR g terms f (rank + 1) (nextL g terms rank l)

def ranksRef (g : Gr) (terms : Bool) : List Fc := if right g then iterR g terms g.nons.toNat 1 (List.replicate g.nons.toNat (0, 0)) else []

theorem nextFrom_hit {g : Gr} {l : List Fc} {rank : Int} {terms : Bool} {non j : Nat} {p : Pr} (hp : g.prods[j]? = some p) (h0 : rk l non = 0) (h1 : p.left = (non : Int)) (h2 : fits0 p l rank terms = true) : nextFrom g l rank terms non j = (rank, (j : Int)) := by
  have hj : j < g.prods.length := (List.getElem?_eq_some_iff.1 hp).1
  have hd : g.prods.drop j = p :: g.prods.drop (j + 1) := by
    rw [List.drop_eq_getElem_cons hj]
    congr 1
    exact (List.getElem_eq_iff hj).2 hp
  simp [nextFrom, h0, hd, List.findIdx?_cons, h1, h2]

theorem nextFrom_miss {g : Gr} {l : List Fc} {rank : Int} {terms : Bool} {non j : Nat} {p : Pr} (hp : g.prods[j]? = some p) (h : (decide (rk l non = 0) && (decide (p.left = (non : Int)) && fits0 p l rank terms)) = false) : nextFrom g l rank terms non j = nextFrom g l rank terms non (j + 1) := by
  have hj : j < g.prods.length := (List.getElem?_eq_some_iff.1 hp).1
  have hd : g.prods.drop j = p :: g.prods.drop (j + 1) := by
    rw [List.drop_eq_getElem_cons hj]
    congr 1
    exact (List.getElem_eq_iff hj).2 hp
  by_cases h0 : rk l non = 0
  · have h' : (decide (p.left = (non : Int)) && fits0 p l rank terms) = false := by simpa [h0] using h
    simp only [nextFrom, h0, hd, List.findIdx?_cons, h', if_true, Bool.false_eq_true, if_false]
    cases (g.prods.drop (j + 1)).findIdx? (fun p => decide (p.left = (non : Int)) && fits0 p l rank terms) with
    | none => rfl
    | some q => simp; omega
  · simp [nextFrom, h0]

theorem nextFrom_end {g : Gr} {l : List Fc} {rank : Int} {terms : Bool} {non : Nat} : nextFrom g l rank terms non g.prods.length = l.getD non (0, 0) := by
  simp [nextFrom]

theorem nextL_len {g : Gr} {l : List Fc} {rank : Int} {terms : Bool} : (nextL g terms rank l).length = l.length := by simp [nextL]

theorem f31 (g : Gr) (hg : g.Small) (terms : Bool) : FH pg Tq 31 [.agg (eGr g), .bool terms] h0 0 fun r h _ => OwnFc (ranksRef g terms) r h := by
  refine FH.of (N := 74) (rs := #[.tmp 4]) Try.func31 rfl rfl (of_decide_eq_true rfl) rfl (by decide) ?_
  refine W.rseq (k := 2) rfl fun K hK => ?_
  simp only [go_sem]
  refine hK _ _ _ ?_
  clear hK K
  refine W.seq ?_
  refine W.rseq (k := 3) rfl fun K hK => ?_
  simp only [go_sem]
  refine VCall.frz 6 (f35 g hg) rfl ?_
  try simp only [go_sem]
  refine hK _ _ _ ?_
  clear hK K
  cases hr : right g
  · refine W.condT (by simp only [go_sem]) ?_
    refine W.rseq (k := 1) rfl fun K hK => ?_
    simp only [go_sem]
    refine hK _ _ _ ?_
    clear hK K
    refine W.ret ?_
    simp only [go_sem]
    exact .inl ⟨by simp [ranksRef, hr], .inl rfl⟩
  refine W.condF (by simp only [go_sem]) ?_
  refine W.skip ?_
  simp only [go_sem]
  obtain ⟨⟨hn1, hn2⟩, _, _, hp60, _⟩ := right_in hr
  refine W.rseq (k := 4) rfl fun K hK => ?_
  simp only [go_sem, show (0 : Int) ≤ g.nons by omega, show g.nons * 16 ≤ 140737488355328 by omega, show (0 : Nat) < 16 by omega, show (0 : Nat) < 2 by omega]
  refine hK _ _ _ ?_
  clear hK K
  refine W.seq ?_
  refine W.rseq (k := 1) rfl fun K hK => ?_
  simp only [go_sem]
  refine hK _ _ _ ?_
  clear hK K
  refine W.block (W.while (fun m t h n => ∃ (l : List Fc) (rank : Int) (bl : Nat), l.length = g.nons.toNat ∧ 1 ≤ rank ∧ rank + m = g.nons + 1 ∧ iterR g terms m rank l = iterR g terms g.nons.toNat 1 (List.replicate g.nons.toNat (0, 0)) ∧ 0 < bl ∧ bl < n ∧ t 1 = .bool terms ∧ t 2 = .ptr 0 0 0 ∧ t 5 = .sl bl 0 l.length 2 ∧ t 6 = .int .i64 rank ∧
      h 0 = some (.cells [eGr g]) ∧ h bl = some (.cells (l.map eFc))) g.nons.toNat
    ⟨List.replicate g.nons.toNat (0, 0), 1, _, by simp, by omega, by omega, rfl, ?_, ?_, rfl, rfl, by simp only [go_sem, List.length_replicate]; rfl, rfl, by simp only [go_sem], by simp only [go_sem, List.map_replicate]⟩ fun m t h n ⟨l, rank, bl, i1, i2, i3, i4, i5, i6, i7, i8, i9, i10, i11, i12⟩ => ?_)
  · omega
  · omega
  have hIn : g.In l := right_In hr (by omega)
  refine W.seq ?_
  refine W.rseq (k := 4) rfl fun K hK => ?_
  simp only [go_sem, i8, i10, i11]
  refine hK _ _ _ ?_
  clear hK K
  refine W.cond rfl (fun hc => ?_) fun hc => ?_
  · refine W.skip ?_
    simp only [go_sem]
    have hrk : rank ≤ g.nons := by simpa using hc
    obtain ⟨m', rfl⟩ : ∃ m', m = m' + 1 := ⟨m - 1, by omega⟩
    rw [iterR] at i4
    refine W.seq (W.block ?_)
    have htake : List.take l.length (l.map eFc) = l.map eFc := List.take_of_length_le (by simp)
    have hne : (l.map eFc).isEmpty = false := by
      cases l with
      | nil => simp at i1; omega
      | cons a l => rfl
    refine W.rseq (k := 4) rfl fun K hK => ?_
    simp only [go_sem, i9, i12, htake, hne, show l.length * 16 ≤ 140737488355328 by omega, show (0 : Nat) < 16 by omega, show (0 : Nat) < 2 by omega]
    refine hK _ _ _ ?_
    clear hK K
    obtain ⟨bx, hbx⟩ : ∃ bx, bx = n + 6 := ⟨_, rfl⟩
    have hget : ∀ x : Nat, x < l.length → l[x]? = some (l.getD x (0, 0)) := fun x hx => by simp [hx]
    refine W.seq ?_
    refine W.rseq (k := 1) rfl fun K hK => ?_
    simp only [go_sem]
    refine hK _ _ _ ?_
    clear hK K
    refine W.block (W.while (fun m t h n' => ∃ non : Nat, m = l.length - non ∧ non ≤ l.length ∧ bx < n' ∧ t 1 = .bool terms ∧ t 2 = .ptr 0 0 0 ∧ t 5 = .sl bl 0 l.length 2 ∧ t 6 = .int .i64 rank ∧ t 7 = .sl bx 0 l.length 2 ∧ t 8 = .int .i64 non ∧
        h 0 = some (.cells [eGr g]) ∧ h bl = some (.cells (l.map eFc)) ∧ ∃ c : List Fc, c.length = l.length ∧ h bx = some (.cells (c.map eFc)) ∧ ∀ x, x < l.length → c[x]? = some (if x < non then nextFrom g l rank terms x 0 else l.getD x (0, 0))) l.length
      ⟨0, by simp, by simp, by omega, i7, i8, by simp only [go_sem, i9], i10, by simp only [go_sem, hbx], rfl, by simp only [go_sem, i11], by simp only [go_sem, i12, show ∀ i, ¬ (bl = n + i) from fun i => by omega], l, rfl, by simp only [go_sem, hbx], fun x hx => by simpa using hget x hx⟩
      fun m t h n' ⟨non, j1, j2, j3, j4, j5, j6, j7, j8, j9, j10, j11, c, j12, j13, j14⟩ => ?_)
    have y1 : ∀ i, ¬ (bl = n' + i) := fun i => by omega
    have y2 : ∀ i, ¬ (bx = n' + i) := fun i => by omega
    refine W.seq ?_
    refine W.rseq (k := 4) rfl fun K hK => ?_
    simp only [go_sem, j5, j9, j10]
    refine hK _ _ _ ?_
    clear hK K
    refine W.cond rfl (fun hc2 => ?_) fun hc2 => ?_
    · refine W.skip ?_
      simp only [go_sem]
      have hnon : non < l.length := by simp at hc2; omega
      refine W.seq (W.block ?_)
      have hw : IntKind.wrap .i64 ((g.prods.length : Int) - 1) = (g.prods.length : Int) - 1 := wrap64 (by omega) (by omega)
      refine W.rseq (k := 5) rfl fun K hK => ?_
      simp only [go_sem, j5, j10, hw]
      refine hK _ _ _ ?_
      clear hK K
      refine W.block (W.while (fun m t h n2 => ∃ j : Nat, m = j ∧ j ≤ g.prods.length ∧ bx < n2 ∧ t 1 = .bool terms ∧ t 2 = .ptr 0 0 0 ∧ t 5 = .sl bl 0 l.length 2 ∧ t 6 = .int .i64 rank ∧ t 7 = .sl bx 0 l.length 2 ∧ t 8 = .int .i64 non ∧ t 9 = .int .i64 ((j : Int) - 1) ∧
          h 0 = some (.cells [eGr g]) ∧ h bl = some (.cells (l.map eFc)) ∧ ∃ c : List Fc, c.length = l.length ∧ h bx = some (.cells (c.map eFc)) ∧ ∀ x, x < l.length → c[x]? = some (if x < non then nextFrom g l rank terms x 0 else if x = non then nextFrom g l rank terms non j else l.getD x (0, 0))) g.prods.length
        ⟨g.prods.length, rfl, by simp, by omega, j4, j5, j6, j7, j8, j9, rfl, j10, j11, c, j12, j13, fun x hx => by
          rw [j14 x hx]
          by_cases h1 : x < non
          · simp [h1]
          · by_cases h2 : x = non
            · subst h2; simp [nextFrom_end]
            · simp [h1, h2]⟩
        fun m t h n2 ⟨j, k1, k2, k3, k4, k5, k6, k7, k8, k9, k10, k11, k12, c, k13, k14, k15⟩ => ?_)
      have x1 : ∀ i, ¬ (bl = n2 + i) := fun i => by omega
      have x2 : ∀ i, ¬ (bx = n2 + i) := fun i => by omega
      have x3 : ∀ i, ¬ (0 = n2 + i) := fun i => by omega
      refine W.seq ?_
      refine W.rseq (k := 2) rfl fun K hK => ?_
      simp only [go_sem, k10]
      refine hK _ _ _ ?_
      clear hK K
      refine W.cond rfl (fun hc3 => ?_) fun hc3 => ?_
      · refine W.skip ?_
        simp only [go_sem]
        obtain ⟨i, rfl⟩ : ∃ i, j = i + 1 := ⟨j - 1, by simp at hc3; omega⟩
        have e9 : t 9 = .int .i64 (i : Int) := by rw [k10]; congr 1; omega
        clear k10 hc3
        obtain ⟨p, hp⟩ := get_some (show i < g.prods.length by omega)
        have hm : p ∈ g.prods := List.mem_of_getElem? hp
        obtain ⟨⟨hl0, hl1⟩, hin⟩ := hIn p hm
        obtain ⟨b, hb⟩ := fc_get (l := l) (n := (non : Int)) (by omega) (by omega)
        have hb' : l[non]? = some (rk l non, b) := by simpa using hb
        refine W.seq (W.block ?_)
        refine W.rseq (k := 27) rfl fun K hK => ?_
        have mid : ∀ t (h : Heap) n2 cc, t 65 = .bool cc → cc = (decide (rk l non = 0) && (decide (p.left = (non : Int)) && fits0 p l rank terms)) → bx < n2 → t 1 = .bool terms → t 2 = .ptr 0 0 0 → t 5 = .sl bl 0 l.length 2 → t 6 = .int .i64 rank → t 7 = .sl bx 0 l.length 2 → t 8 = .int .i64 non → t 9 = .int .i64 (i : Int) →
            h 0 = some (.cells [eGr g]) → h bl = some (.cells (l.map eFc)) → h bx = some (.cells (c.map eFc)) → K t h n2 := by
          intro t h n2 cc e65 hcc hn2 e1 e2 e5 e6 e7 e8 e9 m0 ml mx
          refine hK _ _ _ ?_
          clear hK K
          refine W.cond (r := cc) (by simp only [go_sem, e65]) (fun hc3 => ?_) fun hc3 => ?_
          · rw [hc3] at hcc
            have hcc' : rk l non = 0 ∧ p.left = (non : Int) ∧ fits0 p l rank terms = true := by simpa using hcc.symm
            have hcn : (c.map eFc)[non]? = some (eFc (c.getD non (0, 0))) := by simp [show non < c.length by omega]
            refine W.region (k := 7) rfl ?_
            simp only [go_sem, e6, e7, e8, e9, mx, show (non : Int) < (l.length : Int) by omega, show non < c.length by omega, (show c[non]? = some (c.getD non (0, 0)) by simp [show non < c.length by omega])]
            refine W.region (k := 3) rfl ?_
            simp only [go_sem, e9]
            refine ⟨i, by omega, i, rfl, by omega, by omega, e1, e2, e5, e6, e7, e8, ?_, ?_, ?_, c.set non (rank, (i : Int)), by simpa using k13, ?_, fun x hx => ?_⟩
            · rw [wrap64 (by omega) (by omega)]
            · simp only [go_sem, show ¬ (0 = bx) by omega, m0]
            · simp only [go_sem, show ¬ (bl = bx) by omega, ml]
            · simp only [go_sem, List.map_set]
            · rw [List.getElem?_set]
              by_cases h2 : non = x
              · subst h2
                rw [if_pos rfl, if_pos (by omega), nextFrom_hit hp hcc'.1 hcc'.2.1 hcc'.2.2]
                simp
              · rw [if_neg h2, k15 x hx]
                simp [Ne.symm h2]
          · refine W.skip ?_
            simp only [go_sem]
            refine W.region (k := 3) rfl ?_
            simp only [go_sem, e9]
            rw [hc3] at hcc
            refine ⟨i, by omega, i, rfl, by omega, by omega, e1, e2, e5, e6, e7, e8, ?_, m0, ml, c, k13, mx, fun x hx => ?_⟩
            · rw [wrap64 (by omega) (by omega)]
            · rw [k15 x hx, nextFrom_miss hp hcc.symm]
        clear hK
        simp only [go_sem, k5, k6, k9, k11, k12, e9, show (non : Int) < (l.length : Int) by omega, hb']
        by_cases c1 : rk l non = 0
        · simp only [go_sem, c1, k5, k8, k9, k11, e9, hp]
          by_cases c2 : p.left = (non : Int)
          · have c2' : decide (p.left = (non : Int)) = true := by simp [c2]
            simp only [go_sem, c2', k4, k5, k6, k7, k8, k9, k11, k12, e9, hp]
            refine VCall.frzq 8 (rfs_cons rfl (rfs_cons (rf_sl (l := l) (by simp only [go_sem, k12]) rfl) (rfs_cons rfl (rfs_cons rfl rfs_nil)))) (f86 p l rank terms (hg.2 p hm) hin) ?_
            simp only [go_sem]
            exact mid _ _ _ _ rfl (by simp [c1, c2, fits0]) (by omega) k4 k5 k6 k7 k8 k9 e9 k11 k12 k14
          · simp only [go_sem, c2]
            exact mid _ _ _ _ rfl (by simp [c1, c2]) (by omega) k4 k5 k6 k7 k8 k9 e9 k11 k12 k14
        · simp only [go_sem, c1]
          exact mid _ _ _ _ rfl (by simp [c1]) (by omega) k4 k5 k6 k7 k8 k9 e9 k11 k12 k14
      · refine W.exit ?_
        simp only [go_sem]
        have hj : j = 0 := by simp at hc3; omega
        subst hj
        refine W.region (k := 3) rfl ?_
        simp only [go_sem, k9]
        refine ⟨l.length - (non + 1), by omega, non + 1, rfl, by omega, by omega, k4, k5, k6, k7, k8, ?_, k11, k12, c, k13, k14, fun x hx => ?_⟩
        · rw [wrap64 (by omega) (by omega)]; rfl
        · rw [k15 x hx]
          by_cases h1 : x < non
          · simp [h1, show x < non + 1 by omega]
          · by_cases h2 : x = non
            · subst h2; simp
            · simp [h1, h2, show ¬ x < non + 1 by omega]
    · refine W.exit ?_
      simp only [go_sem]
      have hnon : ¬ non < l.length := by simp at hc2; omega
      have hcn : c = nextL g terms rank l := by
        refine List.ext_getElem? fun x => ?_
        by_cases hx : x < l.length
        · rw [j14 x hx, if_pos (by omega)]
          simp [nextL, hx]
        · rw [List.getElem?_eq_none (by omega), List.getElem?_eq_none (by rw [nextL_len]; omega)]
      subst hcn
      refine W.region (k := 2) rfl ?_
      simp only [go_sem, j8]
      refine W.region (k := 3) rfl ?_
      simp only [go_sem, j7]
      refine ⟨m', by omega, nextL g terms rank l, rank + 1, bx, by rw [nextL_len]; exact i1, by omega, by omega, i4, by omega, by omega, j4, j5, ?_, ?_, j10, j13⟩
      · rw [nextL_len]
      · rw [wrap64 (by omega) (by omega)]
  · refine W.exit ?_
    simp only [go_sem]
    refine W.rseq (k := 2) rfl fun K hK => ?_
    simp only [go_sem, i9]
    refine hK _ _ _ ?_
    clear hK K
    refine W.ret ?_
    simp only [go_sem]
    have hm : m = 0 := by simp at hc; omega
    subst hm
    rw [iterR] at i4
    refine .inr ⟨bl, ?_, ?_⟩
    · rw [ranksRef, hr, if_pos rfl, ← i4]
    · rw [ranksRef, hr, if_pos rfl, ← i4]; exact i12

end Go.Av

