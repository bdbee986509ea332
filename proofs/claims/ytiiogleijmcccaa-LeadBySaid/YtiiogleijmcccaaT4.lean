/-
  Layer 15, package tree: run, open. Conditions: none.
-/
import Derived.Test.YtiiogleijmcccaaT3
namespace Go.Av
open Go.Proofs
set_option maxRecDepth 100000
set_option linter.unusedSimpArgs false
set_option linter.unusedVariables false

/-- What may be in a replayer, up to a bound. -/
structure Rs.Fine (r : Rs) (B : Nat) : Prop where
  sum : r.todo.length + r.word.length ≤ B
  nodes : r.nodes.length ≤ B
  ats : ∀ x ∈ r.nodes, x.2.length + r.todo.length ≤ B
  parts : ∀ p ∈ r.todo, p.node < r.nodes.length

theorem hereF_len {w : List Int} {ns : List Nd} {p : Pt} : (hereF w ns p).length = ns.length := extN_len

theorem hereF_mem {w : List Int} {ns : List Nd} {p : Pt} {B : Nat} (h : ∀ x ∈ ns, x.2.length + 1 ≤ B) : ∀ x ∈ hereF w ns p, x.2.length ≤ B := by
  intro x hx
  unfold hereF extN at hx
  split at hx
  · obtain ⟨i, hi⟩ := List.mem_iff_getElem?.1 hx
    rw [List.getElem?_modify] at hi
    cases hn : ns[i]? with
    | none => rw [hn] at hi; simp at hi
    | some y =>
      rw [hn] at hi
      have := h y (List.mem_of_getElem? hn)
      simp only [Option.map_eq_map, Option.map_some, Option.some.injEq] at hi
      subst hi
      split
      · simp; omega
      · omega
  · have := h x hx; omega

theorem Rs.Fine.drop {r : Rs} {B : Nat} {p : Pt} {t : List Pt} (h : r.Fine B) (ht : r.todo = p :: t) : (⟨t, r.word, hereF r.word r.nodes p⟩ : Rs).Fine B ∧ ((⟨t, r.word ++ [p.s.n], hereF r.word r.nodes p⟩ : Rs)).Fine B := by
  obtain ⟨h1, h2, h3, h4⟩ := h
  rw [ht] at h1 h3 h4
  simp only [List.length_cons] at h1 h3
  have a : ∀ x ∈ hereF r.word r.nodes p, x.2.length + t.length ≤ B := fun x hx => by
    by_cases hB : t.length ≤ B
    · have := hereF_mem (B := B - t.length) (fun x hx => by have := h3 x hx; omega) x hx
      omega
    · omega
  exact ⟨⟨by simp; omega, by rw [hereF_len]; exact h2, a, fun q hq => by rw [hereF_len]; exact h4 q (by simp [hq])⟩, ⟨by simp; omega, by rw [hereF_len]; exact h2, a, fun q hq => by rw [hereF_len]; exact h4 q (by simp [hq])⟩⟩

def cut (co : Co) (n : Nat) : Co := fun x => if x < n then co x else none

theorem cut_lt {co : Co} {n x : Nat} (h : x < n) : cut co n x = co x := if_pos h
theorem cut_ge {co : Co} {n x : Nat} (h : n ≤ x) : cut co n x = none := if_neg (by omega)

/-- From a beginning to here: what was nobody's is as it was. -/
def Bs (co : Co) (h : Heap) (n : Nat) (co' : Co) (h' : Heap) (n' : Nat) : Prop := n ≤ n' ∧ CoExt co co' n ∧ ∀ x, x < n → co x = none → h' x = h x

theorem Bs.start {co : Co} {h h' : Heap} {n n' : Nat} (hn : n ≤ n') (hh : ∀ x, x < n → h' x = h x) : Bs co h n (cut co n) h' n' := ⟨hn, fun x hx => cut_lt hx, fun x hx _ => hh x hx⟩

theorem Bs.loc {co ck : Co} {h hk h' : Heap} {n nk n' : Nat} (b : Bs co h n ck hk nk) (hn : nk ≤ n') (hh : ∀ x, x < n → h' x = hk x) : Bs co h n (cut ck nk) h' n' := by
  obtain ⟨b1, b2, b3⟩ := b
  exact ⟨by omega, fun x hx => (cut_lt (by omega)).trans (b2 x hx), fun x hx e => (hh x hx).trans (b3 x hx e)⟩

theorem Bs.call {co ck c' : Co} {h hk h' : Heap} {n nk n' : Nat} (b : Bs co h n ck hk nk) (hn : nk ≤ n') (hc : CoExt ck c' nk) (hh : ∀ x, x < nk → ck x = none → h' x = hk x) : Bs co h n c' h' n' := by
  obtain ⟨b1, b2, b3⟩ := b
  exact ⟨by omega, b2.trans hc b1, fun x hx e => (hh x (by omega) ((b2 x hx).trans e)).trans (b3 x hx e)⟩

theorem Mac.loc {bR : Nat} {g : Gr} {co : Co} {h h' : Heap} {n n' : Nat} {r : Rs} {tv wv nv : AV} {av : Nat → AV} (m : Mac bR g co h n r tv wv nv av) (hn : n ≤ n') (hh : ∀ x, x < n → co x ≠ none → h' x = h x) : Mac bR g (cut co n) h' n' r tv wv nv av :=
  m.next hn (fun x hx => cut_lt hx) hh

theorem Bs.mac {bR : Nat} {g : Gr} {co ck : Co} {h hk : Heap} {n nk : Nat} {r : Rs} {tv wv nv : AV} {av : Nat → AV} (b : Bs co h n ck hk nk) (m : Mac bR g ck hk nk r tv wv nv av) : MacR bR g co h n r hk nk :=
  ⟨b.1, b.2.2, ck, tv, wv, nv, av, b.2.1, m⟩

def runR (bR : Nat) (g : Gr) (co : Co) (h : Heap) (n : Nat) (r : Rs) (res : AV) (h' : Heap) (n' : Nat) : Prop :=
  res = .tup [.int .i64 ((runF r.todo r.word r.nodes).1.getD 0), .bool (runF r.todo r.word r.nodes).1.isSome] ∧ MacR bR g co h n (runF r.todo r.word r.nodes).2 h' n'

set_option maxHeartbeats 4000000 in
theorem f125 (bR : Nat) (g : Gr) (co : Co) (h : Heap) (n : Nat) (r : Rs) (tv wv nv : AV) (av : Nat → AV) (m : Mac bR g co h n r tv wv nv av) (B : Nat) (hB : B < 2 ^ 40) (hf : r.Fine B) :
    FH pg Tq 125 [.ptr bR 0 0] h n fun res h' n' => runR bR g co h n r res h' n' := by
  refine FH.of (N := 40) (rs := #[.tmp 2, .tmp 3]) Try.func125 rfl rfl (of_decide_eq_true rfl) rfl (by decide) ?_
  refine W.rseq (k := 2) rfl fun K hK => ?_
  simp only [go_sem]
  refine hK _ _ _ ?_
  clear hK K
  refine W.block (W.while (fun k t h1 n1 => ∃ (r1 : Rs) (co1 : Co) (tv wv nv : AV) (av : Nat → AV), k = r1.todo.length ∧ r1.Fine B ∧ runF r1.todo r1.word r1.nodes = runF r.todo r.word r.nodes ∧ Bs co h n co1 h1 n1 ∧ Mac bR g co1 h1 n1 r1 tv wv nv av ∧ t 0 = .ptr bR 0 0) r.todo.length
    ⟨r, _, tv, wv, nv, av, rfl, hf, rfl, Bs.start (by omega) (fun x hx => by simp only [go_sem]), m.loc (by omega) (fun x hx _ => by simp only [go_sem]), rfl⟩ fun k t h1 n1 ⟨r1, co1, tv, wv, nv, av, i1, i2, i3, i4, i5, i6⟩ => ?_)
  have hlen : r1.todo.length < 2 ^ 40 := by have := i2.sum; omega
  refine W.block ?_
  refine W.rseq (k := 10) rfl fun K hK => ?_
  simp only [go_sem, i6]
  refine VCall.heap (f141 bR g (cut co1 n1) h1 (n1 + 10) r1 tv wv nv av (i5.loc (by omega) fun x hx _ => rfl) hlen) fun res h2 n2 hres => ?_
  unfold popR at hres
  cases ht : r1.todo with
  | nil =>
    rw [ht] at hres
    obtain ⟨rfl, a1, a2, co2, tv2, wv2, nv2, av2, a3, a4⟩ := hres
    simp only [go_sem]
    refine hK _ _ _ ?_
    first | clear hK K | clear hK | skip
    refine W.seq ?_
    refine W.rseq (k := 2) rfl fun K hK => ?_
    simp only [go_sem]
    refine hK _ _ _ ?_
    clear hK K
    refine W.condT (by simp only [go_sem]) ?_
    refine W.rseq (k := 2) rfl fun K hK => ?_
    simp only [go_sem]
    refine hK _ _ _ ?_
    clear hK K
    refine W.ret ?_
    simp only [go_sem]
    have hb : Bs co h n co2 h2 n2 := (i4.loc (n' := n1 + 10) (by omega) fun x hx => rfl).call a1 a3 a2
    have hs : co2 (n1 + 7) = none := (a3 _ (by omega)).trans (cut_ge (by omega))
    unfold runR
    rw [← i3, ht]
    refine ⟨rfl, ?_⟩
    have hr : (runF [] r1.word r1.nodes).2 = r1 := by rw [runF, ← ht]
    rw [hr]
    have nn := i4.1
    exact (hb.loc (by omega) fun x hx => by simp only [go_sem, show ¬ x = n1 + 7 by omega, show ∀ j, ¬ x = n2 + j from fun j => by omega]).mac (a4.loc (by omega) fun x hx hx2 => by simp only [go_sem, show ¬ x = n1 + 7 from fun e => hx2 (e ▸ hs), show ∀ j, ¬ x = n2 + j from fun j => by omega])
  | cons p l =>
    rw [ht] at hres
    obtain ⟨rfl, a1, a2, co2, tv2, wv2, nv2, av2, a3, a4⟩ := hres
    simp only [go_sem]
    refine hK _ _ _ ?_
    first | clear hK K | clear hK | skip
    refine W.seq ?_
    refine W.rseq (k := 2) rfl fun K hK => ?_
    simp only [go_sem]
    refine hK _ _ _ ?_
    clear hK K
    refine W.condF (by simp only [go_sem]) ?_
    refine W.skip ?_
    simp only [go_sem]
    have hb : Bs co h n co2 h2 n2 := (i4.loc (n' := n1 + 10) (by omega) fun x hx => rfl).call a1 a3 a2
    have hs : co2 (n1 + 7) = none := (a3 _ (by omega)).trans (cut_ge (by omega))
    have nn := i4.1
    have z2 : ∀ x, x < n2 → ∀ j, ¬ x = n2 + j := fun x hx j => by omega
    have hpn : p.node < r1.nodes.length := i2.parts p (by rw [ht]; simp)
    have hwl : r1.word.length < 2 ^ 40 := by have := i2.sum; omega
    have hal : ∀ x ∈ r1.nodes, x.2.length < 2 ^ 40 := fun x hx => by have := i2.ats x hx; omega
    obtain ⟨fine1, fine2⟩ := i2.drop ht
    refine W.rseq (k := 3) rfl fun K hK => ?_
    simp only [go_sem, i6]
    refine VCall.heap (f142 bR g (cut co2 n2) _ _ ⟨l, r1.word, r1.nodes⟩ tv2 wv2 nv2 av2 (a4.loc (by omega) fun x hx hx2 => by simp only [go_sem, show ¬ x = n1 + 7 from fun e => hx2 (e ▸ hs), z2 x hx]) p hpn hwl hal) fun res h3 n3 hres => ?_
    obtain ⟨b1, b2, co3, tv3, wv3, nv3, av3, b3, b4⟩ := hres
    have hb3 : Bs co h n co3 h3 n3 := (hb.loc (h' := _) (n' := _) (by omega) (fun x hx => by simp only [go_sem, show ¬ x = n1 + 7 by omega])).call b1 b3 b2
    have hs3' : cut co2 n2 (n1 + 7) = none := by rw [cut_lt (by omega)]; exact hs
    have hs3 : co3 (n1 + 7) = none := (b3 _ (by omega)).trans hs3'
    have hp3 : h3 (n1 + 7) = some (.cells [ePt p]) := by rw [b2 _ (by omega) hs3']; simp only [go_sem]
    simp only [go_sem]
    refine hK _ _ _ ?_
    first | clear hK K | clear hK | skip
    refine W.seqk fun K hK => ?_
    refine W.block ?_
    refine W.rseq (k := 3) rfl fun K hK => ?_
    simp only [go_sem, hp3]
    refine hK _ _ _ ?_
    clear hK K
    cases hfin : p.fin
    · refine W.condF (by simp only [go_sem, hfin]) ?_
      refine W.rseq (k := 4) rfl fun K hK => ?_
      simp only [go_sem, hp3]
      refine hK _ _ _ ?_
      clear hK K
      cases hnon : p.s.non
      · refine W.condF (by simp only [go_sem, hnon]) ?_
        refine W.skip ?_
        simp only [go_sem]
        refine hK _ _ _ ?_
        clear hK
        have b4' := b4
        obtain ⟨⟨m1, m2, m3⟩, m4, m5, m6, m7⟩ := b4'
        have zR : ∀ j, ¬ bR = n3 + j := fun j => by omega
        have lR : ∀ j, (bR < n3 + j) = True := fun j => eq_true (by omega)
        have zs : ∀ j, ¬ n1 + 7 = n3 + j := fun j => by omega
        have ls : ∀ j, (n1 + 7 < n3 + j) = True := fun j => eq_true (by omega)
        have hr : runF l (r1.word ++ [p.s.n]) (hereF r1.word r1.nodes p) = runF r.todo r.word r.nodes := by rw [← i3, ht, runF, hfin, hnon]; simp
        have fin : ∀ (h' : Heap) (n' : Nat), MacR bR g co3 h3 n3 ⟨l, r1.word ++ [p.s.n], hereF r1.word r1.nodes p⟩ h' n' → ∃ k', k' < k ∧ ∃ (r1 : Rs) (co1 : Co) (tv wv nv : AV) (av : Nat → AV), k' = r1.todo.length ∧ r1.Fine B ∧ runF r1.todo r1.word r1.nodes = runF r.todo r.word r.nodes ∧ Bs co h n co1 h' n' ∧ Mac bR g co1 h' n' r1 tv wv nv av := fun h' n' ⟨c1, c2, co4, tv4, wv4, nv4, av4, c3, c4⟩ =>
          ⟨l.length, by rw [i1, ht]; simp, ⟨l, r1.word ++ [p.s.n], hereF r1.word r1.nodes p⟩, co4, tv4, wv4, nv4, av4, rfl, fine2, hr, hb3.call c1 c3 c2, c4⟩
        simp only at m5
        rcases m5 with ⟨e0, rfl⟩ | ⟨bW, rfl, k2, k3, k4⟩
        · refine W.draw (k := 13) rfl ?_
          simp only [go_sem, i6, zR, lR, zs, ls, m3, hp3, ne_eq, not_false_eq_true, Int.reduceEq, show (0 : Nat) < 1 by omega, show (0 : Nat) < 8 by omega]
          refine ⟨by kernel_rfl, ?_⟩
          refine fin _ _ ?_
          refine b4.setWord (co' := setc co3 (n3 + 16) 2) (wv' := .sl (n3 + 16) 0 1 1) (by omega) (setc_ext (by omega)) (by simp only [go_sem]) (.inr ⟨n3 + 16, by simp [e0], by omega, by simp [setc], ?_⟩) ?_
          · simp only [go_sem, show ¬ n3 + 16 = bR by omega, e0]; rfl
          · intro x hx hxR hx1
            simp only [go_sem, show ∀ j, ¬ x = n3 + j from fun j => by omega, hxR]
        · have zW : ∀ j, ¬ bW = n3 + j := fun j => by omega
          have hWR : ¬ bR = bW := fun e => by rw [← e, m2] at k3; injection k3 with k3; omega
          have hWs : ¬ n1 + 7 = bW := fun e => by rw [← e, hs3] at k3; cases k3
          refine W.draw (k := 13) rfl ?_
          simp only [go_sem, i6, zR, lR, zs, ls, zW, hWR, hWs, m3, hp3, k4, Nat.lt_irrefl, and_false, if_false, ne_eq, not_false_eq_true, Int.reduceEq, show (0 : Nat) < 1 by omega, show (0 : Nat) < 8 by omega, show (r1.word.length + 1) * 8 ≤ 140737488355328 by omega, show ¬ n3 + 7 ≤ bW by omega]
          refine ⟨by kernel_rfl, ?_⟩
          refine fin _ _ ?_
          refine b4.setWord (co' := setc co3 (n3 + 16) 2) (wv' := .sl (n3 + 16) 0 (r1.word.length + 1) 1) (by omega) (setc_ext (by omega)) (by simp only [go_sem]) (.inr ⟨n3 + 16, by simp, by omega, by simp [setc], ?_⟩) ?_
          · simp only [go_sem, show ¬ n3 + 16 = bR by omega, List.map_append]; rfl
          · intro x hx hxR hx1
            have hxW : ¬ x = bW := fun e => hx1 (by rw [e]; exact k3)
            simp only [go_sem, show ∀ j, ¬ x = n3 + j from fun j => by omega, hxR, hxW]
      · refine W.condT (by simp only [go_sem, hnon]) ?_
        refine W.rseq (k := 5) rfl fun K hK => ?_
        simp only [go_sem, hp3]
        refine hK _ _ _ ?_
        clear hK K
        refine W.ret ?_
        simp only [go_sem]
        have hr : runF r1.todo r1.word r1.nodes = (some p.s.n, ⟨l, r1.word, hereF r1.word r1.nodes p⟩) := by rw [ht, runF, hfin, hnon]; simp
        unfold runR
        rw [← i3, hr]
        refine ⟨rfl, ?_⟩
        exact (hb3.loc (by omega) fun x hx => by simp only [go_sem, show ∀ j, ¬ x = n3 + j from fun j => by omega]).mac (b4.loc (by omega) fun x hx hx2 => by simp only [go_sem, show ∀ j, ¬ x = n3 + j from fun j => by omega])
    · refine W.condT (by simp only [go_sem, hfin]) ?_
      refine W.exit ?_
      simp only [go_sem]
      have hr : runF l r1.word (hereF r1.word r1.nodes p) = runF r.todo r.word r.nodes := by rw [← i3, ht, runF, hfin]; simp
      exact ⟨l.length, by rw [i1, ht]; simp, ⟨l, r1.word, hereF r1.word r1.nodes p⟩, _, tv3, wv3, nv3, av3, rfl, fine1, hr, hb3.loc (by omega) (fun x hx => by simp only [go_sem]), b4.loc (by omega) (fun x hx hx2 => by simp only [go_sem]), i6⟩

end Go.Av

