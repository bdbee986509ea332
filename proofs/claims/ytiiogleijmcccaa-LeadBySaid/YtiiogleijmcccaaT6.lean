/-
  Layer 15, package tree: replay. Conditions: none.
-/
import Derived.Test.YtiiogleijmcccaaT5
namespace Go.Av
open Go.Proofs
set_option maxRecDepth 100000
set_option linter.unusedSimpArgs false
set_option linter.unusedVariables false

theorem run_fine {B : Nat} : ∀ (t : List Pt) (w : List Int) (ns : List Nd), (⟨t, w, ns⟩ : Rs).Fine B → (runF t w ns).2.Fine B ∧ (runF t w ns).2.nodes.length = ns.length
  | [], w, ns, h => ⟨h, rfl⟩
  | p :: t, w, ns, h => by
    obtain ⟨f1, f2⟩ := h.drop rfl
    rw [runF]
    split
    · obtain ⟨a, b⟩ := run_fine t w (hereF w ns p) f1
      exact ⟨a, b.trans hereF_len⟩
    · split
      · exact ⟨f1, hereF_len⟩
      · obtain ⟨a, b⟩ := run_fine t (w ++ [p.s.n]) (hereF w ns p) f2
        exact ⟨a, b.trans hereF_len⟩

theorem open_fine {B : Nat} {r : Rs} {x : Int} {right : List Sy} (h : r.Fine B) (h8 : right.length ≤ 8) (hn : r.nodes.length + 1 ≤ B + 9) : (openF x right r).Fine (B + 9) := by
  obtain ⟨h1, h2, h3, h4⟩ := h
  refine ⟨by simp [openF]; omega, by simp [openF]; omega, fun y hy => ?_, fun p hp => ?_⟩
  · simp only [openF, List.mem_append, List.mem_singleton] at hy
    simp only [openF, List.length_append, List.length_map, List.length_cons]
    rcases hy with hy | hy
    · have := h3 y hy; omega
    · subst hy; simp only [List.length_nil]; omega
  · simp only [openF, List.mem_append, List.mem_map, List.mem_cons] at hp
    simp only [openF, List.length_append, List.length_cons, List.length_nil]
    rcases hp with ⟨s, _, rfl⟩ | rfl | hp
    · simp only [mkP]; omega
    · simp only [finP]; omega
    · have := h4 p hp; omega

def replR (g : Gr) (l : List Int) (res : AV) (h' : Heap) (n' : Nat) : Prop :=
  ∃ p, res = .tup [p, .int .i64 (replayM g l).1] ∧ ((replayM g l).1 = 0 → ∃ bR co tv wv nv av, p = .ptr bR 0 0 ∧ Mac bR g co h' n' (replayM g l).2 tv wv nv av)

theorem Mac.new {bR : Nat} {g : Gr} {h : Heap} {n : Nat} (hb : bR < n) (hr : h bR = some (.cells [[.int .i64 g.terms, .int .i64 g.nons, .int .i64 g.start, .ro (g.prods.map ePr), .nils, .nils, .nils]])) : Mac bR g (setc (fun _ => none) bR 0) h n ⟨[], [], []⟩ .nils .nils .nils (fun _ => .nils) :=
  ⟨⟨hb, by simp [setc], hr⟩, .inl ⟨rfl, rfl⟩, .inl ⟨rfl, rfl⟩, .inl ⟨rfl, rfl⟩, fun i x h => by simp at h⟩

set_option maxHeartbeats 8000000 in
theorem f97 (g : Gr) (hg : g.Small) (l : List Int) (hl : l.length < 2 ^ 60) (h : Heap) (n : Nat) : FH pg Tq 97 [.agg (eGr g), .ro (l.map eIn)] h n fun res h' n' => replR g l res h' n' := by
  have hg1 : g.prods.length < 2 ^ 60 := hg.1
  refine FH.of (N := 77) (rs := #[.tmp 4, .tmp 5]) Try.func97 rfl rfl (of_decide_eq_true rfl) rfl (by decide) ?_
  refine W.rseq (k := 3) rfl fun K hK => ?_
  simp only [go_sem]
  refine hK _ _ _ ?_
  clear hK K
  refine W.seqk fun K hK => ?_
  have nx : ∀ (t' : Fr) (n' : Nat), right g = true → l.length ≤ 2000 → n < n' → t' 1 = .ro (l.map eIn) → t' 2 = .ptr n 0 0 → K t' (upd h n (some (.cells [eGr g]))) n' := by
    intro t n1 hr h2 hn1 c1 c2
    obtain ⟨⟨hn1', hn2⟩, _, ⟨hs1, hs2⟩, hp60, h5⟩ := right_in hr
    refine hK _ _ _ ?_
    clear hK
    have zn : ∀ j, ¬ n = n1 + j := fun j => by omega
    refine W.rseq (k := 4) rfl fun K hK => ?_
    simp only [go_sem, c2, zn]
    refine hK _ _ _ ?_
    clear hK K
    obtain ⟨bR, hbR⟩ : ∃ bR, bR = n1 + 2 := ⟨_, rfl⟩
    obtain ⟨hB, hhB⟩ : ∃ hB, hB = upd (upd h n (some (.cells [[.int .i64 g.terms, .int .i64 g.nons, .int .i64 g.start, .ro (g.prods.map ePr)]]))) bR (some (.cells [[.int .i64 g.terms, .int .i64 g.nons, .int .i64 g.start, .ro (g.prods.map ePr), .nils, .nils, .nils]])) := ⟨_, rfl⟩
    have hm0 := Mac.new (bR := bR) (g := g) (h := hB) (n := n1 + 4 + 8) (by omega) (by rw [hhB]; simp [upd])
    have hBn : hB n = some (.cells [eGr g]) := by rw [hhB]; simp only [go_sem, show ¬ n = bR by omega]
    rw [← hbR]
    rw [← hhB]
    have zR : ∀ j, ¬ bR = n1 + 4 + j := fun j => by omega
    refine W.dseq (k := 8) rfl fun K hK => ?_
    simp only [go_sem, c2, hBn, show n < n1 + 4 by omega]
    refine VCall.heap (f124 bR g _ _ _ ⟨[], [], []⟩ .nils .nils .nils (fun _ => .nils) hm0 (startP g) (show (0 : Nat) < 2 ^ 40 by omega)) fun res h2 n2 ⟨b1, b2, co2, tv2, wv2, nv2, av2, b3, b4⟩ => ?_
    simp only [go_sem]
    refine hK _ _ _ _ (by kernel_rfl) ?_
    clear hK K
    have hzn : setc (fun _ => none) bR 0 n = none := by simp [setc]; omega
    have hb0 : Bs (fun _ => none) h n co2 h2 n2 := ⟨by omega, fun x hx => (b3 x (by omega)).trans (by simp [setc]; omega), fun x hx _ => (b2 x (by omega) (by simp [setc]; omega)).trans (by rw [hhB]; simp only [go_sem, show ¬ x = bR by omega, show ¬ x = n by omega])⟩
    have hcn : co2 n = none := (b3 n (by omega)).trans hzn
    have hgn : h2 n = some (.cells [eGr g]) := (b2 n (by omega) hzn).trans hBn
    obtain ⟨r0, hr0⟩ : ∃ r0 : Rs, r0 = ⟨[startP g], [], []⟩ := ⟨_, rfl⟩
    have b4' : Mac bR g co2 h2 n2 r0 tv2 wv2 nv2 av2 := by rw [hr0]; exact b4
    have hrep : replayM g l = repM g l r0 := by rw [replayM, hr, if_pos rfl, if_neg (by omega), hr0]
    have fine0 : r0.Fine 1 := by rw [hr0]; exact ⟨by simp, by simp, by simp, fun p hp => by simp at hp; subst hp; simp [startP, mkP]⟩
    have nodes0 : r0.nodes.length = 0 := by rw [hr0]; rfl
    clear b4 hm0 b2 b3 hb0
    refine W.seq ?_
    refine W.rseq (k := 3) rfl fun K hK => ?_
    simp only [go_sem, c1]
    refine hK _ _ _ ?_
    clear hK K
    refine W.block (W.while (fun k t h1 n1 => ∃ (i : Nat) (r1 : Rs) (co1 : Co) (tv wv nv : AV) (av : Nat → AV), k = l.length - i ∧ i ≤ l.length ∧ n < n1 ∧ r1.Fine (9 * i + 1) ∧ r1.nodes.length = i ∧ repM g (l.drop i) r1 = repM g l r0 ∧ Mac bR g co1 h1 n1 r1 tv wv nv av ∧ co1 n = none ∧ h1 n = some (.cells [eGr g]) ∧ (t 2 = .ptr n 0 0 ∧ t 6 = .ptr bR 0 0 ∧ t 32 = .ro (l.map eIn) ∧ t 33 = .int .i64 l.length) ∧ t 34 = .int .i64 i) l.length
      ⟨0, r0, cut co2 n2, tv2, wv2, nv2, av2, by simp, by simp, by omega, fine0, nodes0, rfl, b4'.loc (by omega) (fun x hx hx2 => by simp only [go_sem]), by rw [cut_lt (by omega)]; exact hcn, by simp only [go_sem, hgn], ⟨c2, rfl, rfl, rfl⟩, rfl⟩ fun k t h1 n1 ⟨i, r1, co1, tv, wv, nv, av, i1, i2, i3, i4, i5, i6, i7, i8, i9, i10, i11⟩ => ?_)
    clear c1 c2
    have i10' := i10
    obtain ⟨c2, c6, c32, c33⟩ := i10'
    refine W.rseq (k := 1) rfl fun K hK => ?_
    simp only [go_sem, c33, i11]
    refine hK _ _ _ ?_
    clear hK K
    refine W.seq ?_
    refine W.cond rfl (fun hc => ?_) fun hc => ?_
    · refine W.skip ?_
      simp only [go_sem]
      have hi : i < l.length := by simp at hc; omega
      obtain ⟨x, hx⟩ := get_some hi
      have hd : l.drop i = x :: l.drop (i + 1) := by
        rw [List.drop_eq_getElem_cons hi]
        congr 1
        exact (List.getElem_eq_iff hi).2 hx
      rw [hd, repM] at i6
      refine W.seq (W.block ?_)
      refine W.rseq (k := 3) rfl fun K hK => ?_
      simp only [go_sem, c32, i11, hx]
      refine hK _ _ _ ?_
      clear hK K
      refine W.rseq (k := 7) rfl fun K hK => ?_
      simp only [go_sem, c6]
      refine VCall.heap (f125 bR g (cut co1 n1) _ _ r1 tv wv nv av (i7.loc (by omega) fun x hx hx2 => rfl) (9 * i + 1) (by omega) i4) fun res h3 n3 hres => ?_
      unfold runR at hres
      obtain ⟨fine3, len3⟩ := run_fine r1.todo r1.word r1.nodes i4
      rcases hrun : runF r1.todo r1.word r1.nodes with ⟨o, r'⟩
      rw [hrun] at hres fine3 len3 i6
      simp only at hres fine3 len3 i6
      obtain ⟨rfl, b1, b2, co3, tv3, wv3, nv3, av3, b3, b4⟩ := hres
      have hn3 : co3 n = none := (b3 n (by omega)).trans (by rw [cut_lt i3]; exact i8)
      have hg3 : h3 n = some (.cells [eGr g]) := (b2 n (by omega) (by rw [cut_lt i3]; exact i8)).trans (by simp only [go_sem, i9])
      simp only [go_sem]
      refine hK _ _ _ ?_
      first | clear hK K | clear hK | skip
      have bad : (2, r') = repM g l r0 → ∀ (h' : Heap) (n' : Nat), replR g l (.tup [.nilp, .int .i64 2]) h' n' := fun e h' n' => by
        unfold replR
        rw [hrep, ← e]
        exact ⟨.nilp, rfl, fun h0 => by cases h0⟩
      cases o with
      | none =>
        simp only at i6
        refine W.seq ?_
        refine W.rseq (k := 23) rfl fun K hK => ?_
        simp only [go_sem, Option.isSome_none]
        refine hK _ _ _ ?_
        clear hK K
        refine W.condT (by simp only [go_sem]) ?_
        refine W.rseq (k := 2) rfl fun K hK => ?_
        simp only [go_sem]
        refine hK _ _ _ ?_
        clear hK K
        refine W.ret ?_
        simp only [go_sem]
        exact bad i6 _ _
      | some ν =>
        simp only at i6
        by_cases hx0 : x < 0
        · have hok : okP g x ν = none := by rw [okP, if_neg (by omega)]
          rw [hok] at i6
          refine W.seq ?_
          refine W.rseq (k := 23) rfl fun K hK => ?_
          simp only [go_sem, Option.isSome_some, show decide (x < 0) = true from decide_eq_true hx0]
          refine hK _ _ _ ?_
          clear hK K
          refine W.condT (by simp only [go_sem]) ?_
          refine W.rseq (k := 2) rfl fun K hK => ?_
          simp only [go_sem]
          refine hK _ _ _ ?_
          clear hK K
          refine W.ret ?_
          simp only [go_sem]
          exact bad i6 _ _
        obtain ⟨ξ, rfl⟩ : ∃ ξ : Nat, x = ξ := ⟨x.toNat, by omega⟩
        by_cases hxl : (g.prods.length : Int) ≤ (ξ : Int)
        · have hok : okP g ξ ν = none := by
            rw [okP, if_pos (by omega), List.getElem?_eq_none (by omega)]; rfl
          rw [hok] at i6
          refine W.seq ?_
          refine W.rseq (k := 23) rfl fun K hK => ?_
          simp only [go_sem, Option.isSome_some, c2, hg3, show decide ((ξ : Int) < 0) = false from decide_eq_false hx0, show decide ((ξ : Int) ≥ (g.prods.length : Int)) = true from decide_eq_true hxl]
          refine hK _ _ _ ?_
          clear hK K
          refine W.condT (by simp only [go_sem]) ?_
          refine W.rseq (k := 2) rfl fun K hK => ?_
          simp only [go_sem]
          refine hK _ _ _ ?_
          clear hK K
          refine W.ret ?_
          simp only [go_sem]
          exact bad i6 _ _
        obtain ⟨p, hp⟩ := get_some (show ξ < g.prods.length by omega)
        by_cases hpl : ¬ p.left = ν
        · have hok : okP g ξ ν = none := by
            rw [okP, if_pos (by omega), Int.toNat_natCast, hp]
            simp [hpl]
          rw [hok] at i6
          refine W.seq ?_
          refine W.rseq (k := 23) rfl fun K hK => ?_
          simp only [go_sem, Option.isSome_some, Option.getD_some, c2, hg3, show decide ((ξ : Int) < 0) = false from decide_eq_false hx0, show decide ((ξ : Int) ≥ (g.prods.length : Int)) = false from decide_eq_false hxl, hp, show decide (p.left = ν) = false from decide_eq_false hpl]
          refine hK _ _ _ ?_
          clear hK K
          refine W.condT (by simp only [go_sem]) ?_
          refine W.rseq (k := 2) rfl fun K hK => ?_
          simp only [go_sem]
          refine hK _ _ _ ?_
          clear hK K
          refine W.ret ?_
          simp only [go_sem]
          exact bad i6 _ _
        replace hpl := Decidable.of_not_not hpl
        have hok : okP g ξ ν = some p := by
          rw [okP, if_pos (by omega), Int.toNat_natCast, hp]
          simp [hpl]
        rw [hok] at i6
        simp only at i6
        have h8 : p.right.length ≤ 8 := (h5 p (List.mem_of_getElem? hp)).2.1
        refine W.seq ?_
        refine W.rseq (k := 23) rfl fun K hK => ?_
        simp only [go_sem, Option.isSome_some, Option.getD_some, c2, hg3, show decide ((ξ : Int) < 0) = false from decide_eq_false hx0, show decide ((ξ : Int) ≥ (g.prods.length : Int)) = false from decide_eq_false hxl, hp, hpl]
        refine hK _ _ _ ?_
        clear hK K
        refine W.condF (by simp only [go_sem]) ?_
        refine W.skip ?_
        simp only [go_sem]
        refine W.region (k := 3) rfl ?_
        simp only [go_sem, c6]
        have tl : r'.todo.length < 2 ^ 30 := by have := fine3.sum; omega
        have nl : r'.nodes.length < 2 ^ 30 := by omega
        refine VCall.heap (f126 bR g (cut co3 n3) _ _ r' tv3 wv3 nv3 av3 (b4.loc (by omega) fun x hx hx2 => rfl) (ξ : Int) p (by omega) (by rw [Int.toNat_natCast]; exact hp) h8 tl nl) fun res h4 n4 ⟨d1, d2, co4, tv4, wv4, nv4, av4, d3, d4⟩ => ?_
        have hn4 : co4 n = none := (d3 n (by omega)).trans (by rw [cut_lt (by omega)]; exact hn3)
        have hg4 : h4 n = some (.cells [eGr g]) := (d2 n (by omega) (by rw [cut_lt (by omega)]; exact hn3)).trans hg3
        simp only [go_sem]
        refine W.region (k := 2) rfl ?_
        simp only [go_sem, i11]
        refine ⟨l.length - (i + 1), by omega, i + 1, openF ξ p.right r', cut co4 n4, tv4, wv4, nv4, av4, rfl, by omega, by omega, ?_, ?_, ?_, d4.loc (by omega) (fun x hx hx2 => by simp only [go_sem]), by rw [cut_lt (by omega)]; exact hn4, by simp only [go_sem, hg4], ⟨c2, c6, c32, c33⟩, ?_⟩
        · have hfo := open_fine (x := (ξ : Int)) fine3 h8 (by omega)
          rwa [show 9 * i + 1 + 9 = 9 * (i + 1) + 1 by omega] at hfo
        · simp [openF]; omega
        · rw [← i6]
        · rw [wrap64 (by omega) (by omega)]; rfl
    · refine W.exit ?_
      simp only [go_sem]
      have hi : i = l.length := by simp at hc; omega
      subst hi
      rw [List.drop_length, repM] at i6
      refine W.seq ?_
      refine W.rseq (k := 7) rfl fun K hK => ?_
      simp only [go_sem, c6]
      refine VCall.heap (f125 bR g (cut co1 n1) _ _ r1 tv wv nv av (i7.loc (by omega) fun x hx hx2 => rfl) (9 * l.length + 1) (by omega) i4) fun res h3 n3 hres => ?_
      unfold runR at hres
      rcases hrun : runF r1.todo r1.word r1.nodes with ⟨o, r'⟩
      rw [hrun] at hres i6
      simp only at hres i6
      obtain ⟨rfl, b1, b2, co3, tv3, wv3, nv3, av3, b3, b4⟩ := hres
      simp only [go_sem]
      refine hK _ _ _ ?_
      first | clear hK K | clear hK | skip
      refine W.rseq (k := 1) rfl fun K hK => ?_
      simp only [go_sem]
      refine hK _ _ _ ?_
      clear hK K
      cases o with
      | none =>
        simp only at i6
        refine W.condF (by simp only [go_sem, Option.isSome_none]) ?_
        refine W.skip ?_
        simp only [go_sem]
        refine W.rseq (k := 3) rfl fun K hK => ?_
        simp only [go_sem, c6]
        refine hK _ _ _ ?_
        clear hK K
        refine W.ret ?_
        simp only [go_sem]
        refine ⟨_, by rw [hrep, ← i6], fun _ => ⟨bR, co3, tv3, wv3, nv3, av3, rfl, ?_⟩⟩
        rw [hrep, ← i6]
        exact b4.next (by omega) (CoExt.rfl' _ _) fun x hx hx2 => by simp only [go_sem]
      | some ν =>
        simp only at i6
        refine W.condT (by simp only [go_sem, Option.isSome_some]) ?_
        refine W.rseq (k := 2) rfl fun K hK => ?_
        simp only [go_sem]
        refine hK _ _ _ ?_
        clear hK K
        refine W.ret ?_
        simp only [go_sem]
        refine ⟨_, by rw [hrep, ← i6], fun h0 => ?_⟩
        rw [hrep, ← i6] at h0
        cases h0
  clear hK
  refine W.block ?_
  have zn : ∀ j, ¬ n = n + 1 + j := fun j => by omega
  refine W.rseq (k := 4) rfl fun K hK => ?_
  simp only [go_sem]
  refine VCall.frz 6 (f87 g hg) rfl ?_
  try simp only [go_sem]
  refine hK _ _ _ ?_
  clear hK K
  cases hr : right g
  · refine W.condT (by simp only [go_sem]) ?_
    refine W.rseq (k := 2) rfl fun K hK => ?_
    simp only [go_sem]
    refine hK _ _ _ ?_
    clear hK K
    refine W.ret ?_
    simp only [go_sem]
    have : replayM g l = (1, ⟨[], [], []⟩) := by rw [replayM, hr]; rfl
    unfold replR
    rw [this]
    exact ⟨_, rfl, fun h0 => by cases h0⟩
  refine W.condF (by simp only [go_sem]) ?_
  by_cases h2 : (2000 : Int) < l.length
  · refine W.rseq (k := 4) rfl fun K hK => ?_
    simp only [go_sem, show decide ((2000 : Int) < l.length) = true from decide_eq_true h2]
    refine hK _ _ _ ?_
    clear hK K
    refine W.condT (by simp only [go_sem]) ?_
    refine W.rseq (k := 2) rfl fun K hK => ?_
    simp only [go_sem]
    refine hK _ _ _ ?_
    clear hK K
    refine W.ret ?_
    simp only [go_sem]
    have : replayM g l = (5, ⟨[], [], []⟩) := by rw [replayM, hr, if_pos rfl, if_pos (by omega)]
    unfold replR
    rw [this]
    exact ⟨_, rfl, fun h0 => by cases h0⟩
  · refine W.rseq (k := 4) rfl fun K hK => ?_
    simp only [go_sem, show decide ((2000 : Int) < l.length) = false from decide_eq_false h2]
    refine hK _ _ _ ?_
    clear hK K
    refine W.condF (by simp only [go_sem]) ?_
    refine W.skip ?_
    simp only [go_sem]
    exact nx _ _ hr (by omega) (by omega) rfl rfl

end Go.Av

