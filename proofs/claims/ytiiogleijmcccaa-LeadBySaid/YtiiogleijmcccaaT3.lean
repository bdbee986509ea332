/-
  Layer 15, package tree: pop, here. Conditions: none.
-/
import Derived.Test.YtiiogleijmcccaaT2
namespace Go.Av
open Go.Proofs
set_option maxRecDepth 100000
set_option linter.unusedSimpArgs false
set_option linter.unusedVariables false

def noP : Pt := ⟨⟨false, 0⟩, 0, false⟩

def popR (bR : Nat) (g : Gr) (co : Co) (h : Heap) (n : Nat) (r : Rs) (res : AV) (h' : Heap) (n' : Nat) : Prop :=
  match r.todo with
  | [] => res = .tup [.agg (ePt noP), .bool false] ∧ MacR bR g co h n r h' n'
  | p :: l => res = .tup [.agg (ePt p), .bool true] ∧ MacR bR g co h n ⟨l, r.word, r.nodes⟩ h' n'

theorem SlC.len {α : Type} {e : α → List AV} {sz c : Nat} {co : Co} {h : Heap} {n : Nat} {v : AV} {l : List α} (s : SlC e sz c co h n v l) : (∀ h' n0, aLen h' n0 v = some (.P, .int .i64 l.length, [])) ∧ ∀ a b p q k z o, lenT ⟨a, b, .slice p q k, z, o⟩ v = true := by
  rcases s with ⟨rfl, rfl⟩ | ⟨b, rfl, _⟩
  · exact ⟨fun _ _ => rfl, fun _ _ _ _ _ _ _ => rfl⟩
  · exact ⟨fun _ _ => rfl, fun _ _ _ _ _ _ _ => rfl⟩

theorem f141 (bR : Nat) (g : Gr) (co : Co) (h : Heap) (n : Nat) (r : Rs) (tv wv nv : AV) (av : Nat → AV) (m : Mac bR g co h n r tv wv nv av) (hl : r.todo.length < 2 ^ 40) :
    FH pg Tq 141 [.ptr bR 0 4] h n fun res h' n' => popR bR g co h n r res h' n' := by
  have m' := m
  obtain ⟨⟨m1, m2, m3⟩, m4, m5, m6, m7⟩ := m
  have zR : ∀ j, ¬ bR = n + j := fun j => by omega
  have zR' : ¬ bR = n := by omega
  have lR : ∀ j, (bR < n + j) = True := fun j => eq_true (by omega)
  refine FH.of (N := 39) (rs := #[.cell 2 163, .tmp 3]) Try.func141 rfl rfl (of_decide_eq_true rfl) rfl (by decide) ?_
  refine W.rseq (k := 2) rfl fun K hK => ?_
  simp only [go_sem]
  refine hK _ _ _ ?_
  clear hK K
  refine W.rseq (k := 1) rfl fun K hK => ?_
  simp only [go_sem]
  refine hK _ _ _ ?_
  clear hK K
  have fr : ∀ {h' : Heap} {n' : Nat}, n ≤ n' → (∀ x, x < n → h' x = h x) → MacR bR g co h n r h' n' := fun hn hh =>
    ⟨hn, fun x hx _ => hh x hx, co, tv, wv, nv, av, CoExt.rfl' _ _, m'.next hn (CoExt.rfl' _ _) fun x hx _ => hh x hx⟩
  unfold popR
  cases ht : r.todo with
  | nil =>
    simp only
    rcases m4 with ⟨e0, rfl⟩ | ⟨b, es, rfl, k2, k3, k4, k5, k6⟩
    · refine W.seq ?_
      refine W.rseq (k := 6) rfl fun K hK => ?_
      simp only [go_sem, zR, zR', m3, Int.natCast_zero]
      refine hK _ _ _ ?_
      clear hK K
      refine W.condT (by simp only [go_sem]) ?_
      refine W.rseq (k := 3) rfl fun K hK => ?_
      simp only [go_sem]
      refine hK _ _ _ ?_
      clear hK K
      refine W.ret ?_
      simp only [go_sem]
      exact ⟨rfl, fr (by omega) fun x hx => by simp only [go_sem, show ∀ j, ¬ x = n + j from fun j => by omega, show ¬ x = n by omega]⟩
    · have h0 : r.todo.length = 0 := by rw [ht]; rfl
      refine W.seq ?_
      refine W.rseq (k := 6) rfl fun K hK => ?_
      simp only [go_sem, zR, zR', m3, h0, Int.natCast_zero]
      refine hK _ _ _ ?_
      clear hK K
      refine W.condT (by simp only [go_sem]) ?_
      refine W.rseq (k := 3) rfl fun K hK => ?_
      simp only [go_sem]
      refine hK _ _ _ ?_
      clear hK K
      refine W.ret ?_
      simp only [go_sem]
      exact ⟨rfl, fr (by omega) fun x hx => by simp only [go_sem, show ∀ j, ¬ x = n + j from fun j => by omega, show ¬ x = n by omega]⟩
  | cons p l =>
    simp only
    rcases m4 with ⟨e0, _⟩ | ⟨b, es, rfl, k2, k3, k4, k5, k6⟩
    · rw [e0] at ht; cases ht
    have hlen : r.todo.length = l.length + 1 := by rw [ht]; rfl
    have hbR : ¬ b = bR := fun e => by rw [e, m2] at k3; cases k3
    have zb : ∀ j, ¬ b = n + j := fun j => by omega
    have zb' : ¬ b = n := by omega
    have lb : ∀ j, (b < n + j) = True := fun j => eq_true (by omega)
    rw [hlen] at k5 k6
    have hes : es[l.length]? = some (ePt p) := by
      have h1 : (es.take (l.length + 1))[l.length]? = es[l.length]? := by rw [List.getElem?_take]; simp
      rw [← h1, k6, ht, List.reverse_cons, List.map_append, List.getElem?_append_right (by simp)]
      simp
    have htk : es.take l.length = l.reverse.map ePt := by
      have h1 : (es.take (l.length + 1)).take l.length = es.take l.length := by rw [List.take_take]; simp
      rw [← h1, k6, ht, List.reverse_cons, List.map_append, List.take_append_of_le_length (by simp), List.take_of_length_le (by simp)]
    have hw : IntKind.wrap .i64 (((l.length + 1 : Nat) : Int) - 1) = (l.length : Int) := by
      rw [wrap64 (by omega) (by omega)]; omega
    refine W.seq ?_
    refine W.rseq (k := 6) rfl fun K hK => ?_
    simp only [go_sem, zR, zR', m3, hlen, show decide (((l.length + 1 : Nat) : Int) = 0) = false from decide_eq_false (by omega)]
    refine hK _ _ _ ?_
    clear hK K
    refine W.condF (by simp only [go_sem]) ?_
    refine W.skip ?_
    simp only [go_sem]
    refine W.dseq (k := 13) rfl fun K hK => ?_
    simp only [go_sem, zR, zR', lR, m3, zb, zb', lb, k4, hlen, hw, hes, show (l.length : Int) < ((l.length + 1 : Nat) : Int) by omega]
    refine hK _ _ _ _ (by kernel_rfl) ?_
    clear hK K
    refine W.dseq (k := 15) rfl fun K hK => ?_
    simp only [go_sem, zR, zR', lR, m3, zb, zb', lb, k4, hlen, hw, Nat.zero_le, show l.length ≤ l.length + 1 by omega]
    refine hK _ _ _ _ (by kernel_rfl) ?_
    clear hK K
    have zR2 : ∀ j, ¬ n + j = bR := fun j => by omega
    have zR2' : ¬ n = bR := by omega
    refine W.rseq (k := 3) rfl fun K hK => ?_
    simp only [go_sem, zR2, zR2']
    refine hK _ _ _ ?_
    clear hK K
    refine W.ret ?_
    simp only [go_sem, zR2, zR2']
    refine m'.setTodo (co' := co) (tv' := .sl b 0 l.length 4) (by omega) (CoExt.rfl' _ _) (by simp only [go_sem, zR']) (.inr ⟨b, es, rfl, by omega, k3, ?_, by omega, htk⟩) fun x hx hxR hx1 => ?_
    · simp only [go_sem, zb, zb', hbR, k4]
    · simp only [go_sem, show ∀ j, ¬ x = n + j from fun j => by omega, show ¬ x = n by omega, hxR]

theorem SlC.col {α : Type} {e : α → List AV} {sz c : Nat} {co : Co} {h : Heap} {n : Nat} {v : AV} {l : List α} (s : SlC e sz c co h n v l) : v = .nils ∨ ∃ b, v = .sl b 0 l.length sz ∧ b < n ∧ co b = some c := by
  rcases s with ⟨_, h⟩ | ⟨b, h1, h2, h3, _⟩
  · exact .inl h
  · exact .inr ⟨b, h1, h2, h3⟩

theorem rowN_len {nodes : List Nd} {av : Nat → AV} : (rowN nodes av).length = nodes.length := by simp [rowN]

theorem rowN_get {nodes : List Nd} {av : Nat → AV} {i : Nat} {x : Nd} (h : nodes[i]? = some x) : (rowN nodes av)[i]? = some [.int .i64 x.1, av i] := by simp [rowN, h]

theorem rowN_set {nodes : List Nd} {av : Nat → AV} {i : Nat} {x : Nd} {v : AV} {pl : List Int} (h : nodes[i]? = some x) : (rowN nodes av).set i [.int .i64 x.1, v] = rowN (nodes.modify i fun x => (x.1, x.2 ++ pl)) (fun j => if j = i then v else av j) := by
  refine List.ext_getElem? fun j => ?_
  rw [List.getElem?_set]
  by_cases e : i = j
  · subst e
    have hl : i < nodes.length := (List.getElem?_eq_some_iff.1 h).1
    rw [if_pos rfl, if_pos (by rw [rowN_len]; exact hl)]
    have h2 : (nodes.modify i fun x => (x.1, x.2 ++ pl))[i]? = some (x.1, x.2 ++ pl) := by rw [List.getElem?_modify]; simp [h]
    rw [rowN_get h2]; simp
  · rw [if_neg e]
    have h2 : (nodes.modify i fun x => (x.1, x.2 ++ pl))[j]? = nodes[j]? := by rw [List.getElem?_modify]; simp [e]
    cases hj : nodes[j]? with
    | none =>
      rw [hj] at h2
      simp [rowN, hj, h2]
    | some y =>
      rw [hj] at h2
      rw [rowN_get hj, rowN_get h2]
      simp [Ne.symm e]

/-- A node's places are more. -/
theorem Mac.setAt {bR : Nat} {g : Gr} {co co' : Co} {h h' : Heap} {n n' : Nat} {r : Rs} {tv wv nv : AV} {av : Nat → AV} (m : Mac bR g co h n r tv wv nv av) (hn : n ≤ n') (hc : CoExt co co' n) {i : Nat} {x : Nd} {v : AV} {pl : List Int} {bN : Nat} (hx : r.nodes[i]? = some x)
    (hnv : nv = .sl bN 0 r.nodes.length 2) (hbN : bN < n) (hcN : co bN = some 3) (hN : h' bN = some (.cells ((rowN r.nodes av).set i [.int .i64 x.1, v]))) (hst : SlC eIn 1 (4 + i) co' h' n' v (x.2 ++ pl)) (hh : ∀ x, x < n → x ≠ bN → co x ≠ some (4 + i) → h' x = h x) :
    MacR bR g co h n ⟨r.todo, r.word, r.nodes.modify i fun x => (x.1, x.2 ++ pl)⟩ h' n' := by
  obtain ⟨⟨m1, m2, m3⟩, m4, m5, m6, m7⟩ := m
  have f : ∀ c, c ≠ 3 → c ≠ 4 + i → Frm c co co' h h' n n' := fun c h0 h1 => ⟨hn, hc, fun x hx e => hh x hx (fun e2 => by rw [e2, hcN] at e; cases e; exact h0 rfl) (by rw [e]; simpa using h1)⟩
  refine ⟨hn, fun y hy e => hh y hy (fun e2 => by rw [e2, hcN] at e; cases e) (by rw [e]; simp), co', tv, wv, nv, fun j => if j = i then v else av j, hc, ⟨by omega, (hc _ m1).trans m2, ((f 0 (by omega) (by omega)).2.2 bR m1 m2).trans m3⟩, m4.next (f 1 (by omega) (by omega)), m5.next (f 2 (by omega) (by omega)), .inr ⟨bN, by rw [hnv]; simp, by omega, (hc bN hbN).trans hcN, ?_⟩, fun j y hy => ?_⟩
  · rw [hN, rowN_set hx]
  · by_cases e : j = i
    · subst e
      have h2 : (r.nodes.modify j fun x => (x.1, x.2 ++ pl))[j]? = some (x.1, x.2 ++ pl) := by rw [List.getElem?_modify]; simp [hx]
      rw [h2] at hy; cases hy
      simpa using hst
    · have h2 : (r.nodes.modify i fun x => (x.1, x.2 ++ pl))[j]? = r.nodes[j]? := by rw [List.getElem?_modify]; simp [Ne.symm e]
      rw [h2] at hy
      simp only [e, if_false]
      exact (m7 j y hy).next (f (4 + j) (by omega) (by omega))

theorem f142 (bR : Nat) (g : Gr) (co : Co) (h : Heap) (n : Nat) (r : Rs) (tv wv nv : AV) (av : Nat → AV) (m : Mac bR g co h n r tv wv nv av) (p : Pt) (hp : p.node < r.nodes.length) (hw : r.word.length < 2 ^ 40) (ha : ∀ x ∈ r.nodes, x.2.length < 2 ^ 40) :
    FH pg Tq 142 [.ptr bR 0 0, .agg (ePt p)] h n fun _ h' n' => MacR bR g co h n ⟨r.todo, r.word, hereF r.word r.nodes p⟩ h' n' := by
  have m' := m
  obtain ⟨⟨m1, m2, m3⟩, m4, m5, m6, m7⟩ := m
  have zR : ∀ j, ¬ bR = n + j := fun j => by omega
  have zR' : ¬ bR = n := by omega
  have lR : ∀ j, (bR < n + j) = True := fun j => eq_true (by omega)
  refine FH.of (N := 29) (rs := #[]) Try.func142 rfl rfl (of_decide_eq_true rfl) rfl (by decide) ?_
  refine W.rseq (k := 1) rfl fun K hK => ?_
  simp only [go_sem]
  refine hK _ _ _ ?_
  clear hK K
  refine W.rseq (k := 3) rfl fun K hK => ?_
  simp only [go_sem]
  refine hK _ _ _ ?_
  clear hK K
  by_cases hneg : p.node < 0
  · refine W.condF (by simp only [go_sem, show decide (p.node ≥ 0) = false from decide_eq_false (by omega)]) ?_
    refine W.skip ?_
    simp only [go_sem]
    have : hereF r.word r.nodes p = r.nodes := by rw [hereF, extN, if_neg (by omega)]
    rw [this]
    exact ⟨by omega, fun x hx _ => by simp only [go_sem, show ∀ j, ¬ x = n + j from fun j => by omega, show ¬ x = n by omega], co, tv, wv, nv, av, CoExt.rfl' _ _, m'.next (by omega) (CoExt.rfl' _ _) fun x hx _ => by simp only [go_sem, show ∀ j, ¬ x = n + j from fun j => by omega, show ¬ x = n by omega]⟩
  refine W.condT (by simp only [go_sem, show decide (p.node ≥ 0) = true from decide_eq_true (by omega)]) ?_
  obtain ⟨ν, hν⟩ : ∃ ν : Nat, p.node = ν := ⟨p.node.toNat, by omega⟩
  have hνl : ν < r.nodes.length := by omega
  obtain ⟨x, hx⟩ := get_some hνl
  have hH : hereF r.word r.nodes p = r.nodes.modify ν fun y => (y.1, y.2 ++ [(r.word.length : Int)]) := by rw [hereF, extN, if_pos (by omega), hν, Int.toNat_natCast]
  rw [hH]
  rcases m6 with ⟨e0, _⟩ | ⟨bN, hnv, k2, k3, k4⟩
  · rw [e0] at hνl; simp at hνl
  have zN : ∀ j, ¬ bN = n + j := fun j => by omega
  have zN' : ¬ bN = n := by omega
  have lN : ∀ j, (bN < n + j) = True := fun j => eq_true (by omega)
  have hNR : ¬ bN = bR := fun e => by rw [e, m2] at k3; cases k3
  have hrow := rowN_get (av := av) hx
  obtain ⟨A, hA⟩ : ∃ A, A = rowN r.nodes av := ⟨_, rfl⟩
  have hAl : A.length = r.nodes.length := by rw [hA, rowN_len]
  rw [← hA] at hrow k4
  have hax := ha x (List.mem_of_getElem? hx)
  rw [hnv] at m3
  refine W.dseq (k := 8) rfl fun K hK => ?_
  simp only [go_sem, zR, zR', lR, m3, hν, show (ν : Int) < (r.nodes.length : Int) by omega]
  refine hK _ _ _ _ (by kernel_rfl) ?_
  clear hK K
  rcases m5 with ⟨w0, rfl⟩ | ⟨bW, rfl, w2, w3, w4⟩
  · rcases m7 ν x hx with ⟨e0, e1⟩ | ⟨bA, e1, e2, e3, e4⟩
    · rw [e1] at hrow
      refine W.draw (k := 15) rfl ?_
      simp only [go_sem, zR, zR', lR, zN, zN', lN, m3, k4, hν, hrow, ne_eq, not_false_eq_true, Int.reduceEq, show (0 : Nat) < 1 by omega, show (0 : Nat) < 8 by omega]
      refine ⟨by kernel_rfl, ?_⟩
      refine m'.setAt (co' := setc co (n + 23) (4 + ν)) (v := .sl (n + 23) 0 1 1) (pl := [(r.word.length : Int)]) (by omega) (setc_ext (by omega)) hx hnv k2 k3 ?_ (.inr ⟨n + 23, by rw [e0]; rfl, by omega, by simp [setc], ?_⟩) fun y hy hyN hy1 => ?_
      · simp only [go_sem, hA]
      · simp only [go_sem, show ¬ n + 23 = bN by omega, e0, w0]; rfl
      · simp only [go_sem, show ∀ j, ¬ y = n + j from fun j => by omega, show ¬ y = n by omega, hyN]
    · rw [e1] at hrow
      have zA : ∀ j, ¬ bA = n + j := fun j => by omega
      have zA' : ¬ bA = n := by omega
      have hAR : ¬ bR = bA := fun e => by rw [← e, m2] at e3; injection e3 with e3; omega
      have hAN : ¬ bN = bA := fun e => by rw [← e, k3] at e3; injection e3 with e3; omega
      refine W.draw (k := 15) rfl ?_
      simp only [go_sem, zR, zR', lR, zN, zN', lN, zA, zA', hAR, hAN, m3, k4, e4, hν, hrow, List.length_map, Nat.lt_irrefl, and_false, if_false, ne_eq, not_false_eq_true, Int.reduceEq, show (0 : Nat) < 1 by omega, show (0 : Nat) < 8 by omega, show (x.2.length + 1) * 8 ≤ 140737488355328 by omega, show ¬ n ≤ bA by omega, show ¬ n + 12 ≤ bA by omega, show ¬ n + 11 ≤ bA by omega]
      refine ⟨by kernel_rfl, ?_⟩
      refine m'.setAt (co' := setc co (n + 23) (4 + ν)) (v := .sl (n + 23) 0 (x.2.length + 1) 1) (pl := [(r.word.length : Int)]) (by omega) (setc_ext (by omega)) hx hnv k2 k3 ?_ (.inr ⟨n + 23, by simp, by omega, by simp [setc], ?_⟩) fun y hy hyN hy1 => ?_
      · simp only [go_sem, hA]
      · simp only [go_sem, show ¬ n + 23 = bN by omega, List.map_append, w0]; rfl
      · have hyA : ¬ y = bA := fun e => hy1 (by rw [e]; exact e3)
        simp only [go_sem, show ∀ j, ¬ y = n + j from fun j => by omega, show ¬ y = n by omega, hyN, hyA]
  · rcases m7 ν x hx with ⟨e0, e1⟩ | ⟨bA, e1, e2, e3, e4⟩
    · rw [e1] at hrow
      refine W.draw (k := 15) rfl ?_
      simp only [go_sem, zR, zR', lR, zN, zN', lN, m3, k4, hν, hrow, ne_eq, not_false_eq_true, Int.reduceEq, show (0 : Nat) < 1 by omega, show (0 : Nat) < 8 by omega]
      refine ⟨by kernel_rfl, ?_⟩
      refine m'.setAt (co' := setc co (n + 23) (4 + ν)) (v := .sl (n + 23) 0 1 1) (pl := [(r.word.length : Int)]) (by omega) (setc_ext (by omega)) hx hnv k2 k3 ?_ (.inr ⟨n + 23, by rw [e0]; rfl, by omega, by simp [setc], ?_⟩) fun y hy hyN hy1 => ?_
      · simp only [go_sem, hA]
      · simp only [go_sem, show ¬ n + 23 = bN by omega, e0]; rfl
      · simp only [go_sem, show ∀ j, ¬ y = n + j from fun j => by omega, show ¬ y = n by omega, hyN]
    · rw [e1] at hrow
      have zA : ∀ j, ¬ bA = n + j := fun j => by omega
      have zA' : ¬ bA = n := by omega
      have hAR : ¬ bR = bA := fun e => by rw [← e, m2] at e3; injection e3 with e3; omega
      have hAN : ¬ bN = bA := fun e => by rw [← e, k3] at e3; injection e3 with e3; omega
      refine W.draw (k := 15) rfl ?_
      simp only [go_sem, zR, zR', lR, zN, zN', lN, zA, zA', hAR, hAN, m3, k4, e4, hν, hrow, List.length_map, Nat.lt_irrefl, and_false, if_false, ne_eq, not_false_eq_true, Int.reduceEq, show (0 : Nat) < 1 by omega, show (0 : Nat) < 8 by omega, show (x.2.length + 1) * 8 ≤ 140737488355328 by omega, show ¬ n ≤ bA by omega, show ¬ n + 12 ≤ bA by omega, show ¬ n + 11 ≤ bA by omega]
      refine ⟨by kernel_rfl, ?_⟩
      refine m'.setAt (co' := setc co (n + 23) (4 + ν)) (v := .sl (n + 23) 0 (x.2.length + 1) 1) (pl := [(r.word.length : Int)]) (by omega) (setc_ext (by omega)) hx hnv k2 k3 ?_ (.inr ⟨n + 23, by simp, by omega, by simp [setc], ?_⟩) fun y hy hyN hy1 => ?_
      · simp only [go_sem, hA]
      · simp only [go_sem, show ¬ n + 23 = bN by omega, List.map_append]; rfl
      · have hyA : ¬ y = bA := fun e => hy1 (by rw [e]; exact e3)
        simp only [go_sem, show ∀ j, ¬ y = n + j from fun j => by omega, show ¬ y = n by omega, hyN, hyA]

end Go.Av

