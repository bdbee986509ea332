/-
  Layer 15, package tree: the replayer in memory; push, pop, here. Conditions: none.
-/
import Derived.Test.YtiiogleijmcccaaC15
import Derived.Test.YtiiogleijmcccaaG1
namespace Go.Av
open Go.Proofs
set_option maxRecDepth 100000
set_option linter.unusedSimpArgs false
set_option linter.unusedVariables false

/-- Whose a block is. -/
abbrev Co := Nat → Option Nat

def CoExt (co co' : Co) (n : Nat) : Prop := ∀ x, x < n → co' x = co x

theorem CoExt.rfl' (co : Co) (n : Nat) : CoExt co co n := fun _ _ => rfl

theorem CoExt.trans {co co' co2 : Co} {n n' : Nat} (h : CoExt co co' n) (k : CoExt co' co2 n') (hn : n ≤ n') : CoExt co co2 n := fun x hx => (k x (by omega)).trans (h x hx)

def setc (co : Co) (b c : Nat) : Co := fun x => if x = b then some c else co x

theorem setc_ext {co : Co} {b c n : Nat} (h : n ≤ b) : CoExt co (setc co b c) n := fun x hx => by unfold setc; rw [if_neg (by omega)]

/-- A slice in a block of this colour, or none. -/
def SlC {α : Type} (e : α → List AV) (sz c : Nat) (co : Co) (h : Heap) (n : Nat) (v : AV) (l : List α) : Prop := (l = [] ∧ v = .nils) ∨ ∃ b, v = .sl b 0 l.length sz ∧ b < n ∧ co b = some c ∧ h b = some (.cells (l.map e))

/-- The same, with old elements behind it; the last one first. -/
def StC {α : Type} (e : α → List AV) (sz c : Nat) (co : Co) (h : Heap) (n : Nat) (v : AV) (l : List α) : Prop := (l = [] ∧ v = .nils) ∨ ∃ b es, v = .sl b 0 l.length sz ∧ b < n ∧ co b = some c ∧ h b = some (.cells es) ∧ l.length ≤ es.length ∧ es.take l.length = l.reverse.map e

/-- Another memory, as far as these colours go. -/
def Frm (c : Nat) (co co' : Co) (h h' : Heap) (n n' : Nat) : Prop := n ≤ n' ∧ CoExt co co' n ∧ ∀ x, x < n → co x = some c → h' x = h x

theorem SlC.next {α : Type} {e : α → List AV} {sz c : Nat} {co co' : Co} {h h' : Heap} {n n' : Nat} {v : AV} {l : List α} (s : SlC e sz c co h n v l) (f : Frm c co co' h h' n n') : SlC e sz c co' h' n' v l := by
  obtain ⟨f1, f2, f3⟩ := f
  rcases s with s | ⟨b, s1, s2, s3, s4⟩
  · exact .inl s
  · exact .inr ⟨b, s1, by omega, (f2 b s2).trans s3, (f3 b s2 s3).trans s4⟩

theorem StC.next {α : Type} {e : α → List AV} {sz c : Nat} {co co' : Co} {h h' : Heap} {n n' : Nat} {v : AV} {l : List α} (s : StC e sz c co h n v l) (f : Frm c co co' h h' n n') : StC e sz c co' h' n' v l := by
  obtain ⟨f1, f2, f3⟩ := f
  rcases s with s | ⟨b, es, s1, s2, s3, s4, s5⟩
  · exact .inl s
  · exact .inr ⟨b, es, s1, by omega, (f2 b s2).trans s3, (f3 b s2 s3).trans s4, s5⟩

def rowN (nodes : List Nd) (av : Nat → AV) : List (List AV) := nodes.zipIdx.map fun x => [.int .i64 x.1.1, av x.2]

/-- The replayer, in memory. -/
structure Mac (bR : Nat) (g : Gr) (co : Co) (h : Heap) (n : Nat) (r : Rs) (tv wv nv : AV) (av : Nat → AV) : Prop where
  root : bR < n ∧ co bR = some 0 ∧ h bR = some (.cells [[.int .i64 g.terms, .int .i64 g.nons, .int .i64 g.start, .ro (g.prods.map ePr), tv, wv, nv]])
  todo : StC ePt 4 1 co h n tv r.todo
  word : SlC eIn 1 2 co h n wv r.word
  nodes : (r.nodes = [] ∧ nv = .nils) ∨ ∃ b, nv = .sl b 0 r.nodes.length 2 ∧ b < n ∧ co b = some 3 ∧ h b = some (.cells (rowN r.nodes av))
  ats : ∀ (i : Nat) (x : Nd), r.nodes[i]? = some x → SlC eIn 1 (4 + i) co h n (av i) x.2

/-- What a call leaves. -/
def MacR (bR : Nat) (g : Gr) (co : Co) (h : Heap) (n : Nat) (r' : Rs) (h' : Heap) (n' : Nat) : Prop :=
  n ≤ n' ∧ (∀ x, x < n → co x = none → h' x = h x) ∧ ∃ co' tv wv nv av, CoExt co co' n ∧ Mac bR g co' h' n' r' tv wv nv av

theorem Mac.next {bR : Nat} {g : Gr} {co co' : Co} {h h' : Heap} {n n' : Nat} {r : Rs} {tv wv nv : AV} {av : Nat → AV} (m : Mac bR g co h n r tv wv nv av) (hn : n ≤ n') (hc : CoExt co co' n) (hh : ∀ x, x < n → co x ≠ none → h' x = h x) : Mac bR g co' h' n' r tv wv nv av := by
  obtain ⟨⟨m1, m2, m3⟩, m4, m5, m6, m7⟩ := m
  have f : ∀ c, Frm c co co' h h' n n' := fun c => ⟨hn, hc, fun x hx e => hh x hx (by rw [e]; simp)⟩
  refine ⟨⟨by omega, (hc _ m1).trans m2, (hh _ m1 (by rw [m2]; simp)).trans m3⟩, m4.next (f _), m5.next (f _), ?_, fun i x hx => (m7 i x hx).next (f _)⟩
  rcases m6 with m6 | ⟨b, k1, k2, k3, k4⟩
  · exact .inl m6
  · exact .inr ⟨b, k1, by omega, (hc b k2).trans k3, (hh b k2 (by rw [k3]; simp)).trans k4⟩

/-- Another todo list. -/
theorem Mac.setTodo {bR : Nat} {g : Gr} {co co' : Co} {h h' : Heap} {n n' : Nat} {r : Rs} {tv wv nv tv' : AV} {av : Nat → AV} {todo' : List Pt} (m : Mac bR g co h n r tv wv nv av) (hn : n ≤ n') (hc : CoExt co co' n)
    (hroot : h' bR = some (.cells [[.int .i64 g.terms, .int .i64 g.nons, .int .i64 g.start, .ro (g.prods.map ePr), tv', wv, nv]])) (hst : StC ePt 4 1 co' h' n' tv' todo') (hh : ∀ x, x < n → x ≠ bR → co x ≠ some 1 → h' x = h x) :
    MacR bR g co h n ⟨todo', r.word, r.nodes⟩ h' n' := by
  obtain ⟨⟨m1, m2, m3⟩, m4, m5, m6, m7⟩ := m
  have f : ∀ c, c ≠ 0 → c ≠ 1 → Frm c co co' h h' n n' := fun c h0 h1 => ⟨hn, hc, fun x hx e => hh x hx (fun e2 => by rw [e2, m2] at e; cases e; exact h0 rfl) (by rw [e]; simpa using h1)⟩
  refine ⟨hn, fun x hx e => hh x hx (fun e2 => by rw [e2, m2] at e; cases e) (by rw [e]; simp), co', tv', wv, nv, av, hc, ⟨by omega, (hc _ m1).trans m2, hroot⟩, hst, m5.next (f 2 (by omega) (by omega)), ?_, fun i x hx => (m7 i x hx).next (f (4 + i) (by omega) (by omega))⟩
  rcases m6 with m6 | ⟨b, k1, k2, k3, k4⟩
  · exact .inl m6
  · exact .inr ⟨b, k1, by omega, (hc b k2).trans k3, ((f 3 (by omega) (by omega)).2.2 b k2 k3).trans k4⟩

/-- Another word. -/
theorem Mac.setWord {bR : Nat} {g : Gr} {co co' : Co} {h h' : Heap} {n n' : Nat} {r : Rs} {tv wv nv wv' : AV} {av : Nat → AV} {word' : List Int} (m : Mac bR g co h n r tv wv nv av) (hn : n ≤ n') (hc : CoExt co co' n)
    (hroot : h' bR = some (.cells [[.int .i64 g.terms, .int .i64 g.nons, .int .i64 g.start, .ro (g.prods.map ePr), tv, wv', nv]])) (hst : SlC eIn 1 2 co' h' n' wv' word') (hh : ∀ x, x < n → x ≠ bR → co x ≠ some 2 → h' x = h x) :
    MacR bR g co h n ⟨r.todo, word', r.nodes⟩ h' n' := by
  obtain ⟨⟨m1, m2, m3⟩, m4, m5, m6, m7⟩ := m
  have f : ∀ c, c ≠ 0 → c ≠ 2 → Frm c co co' h h' n n' := fun c h0 h1 => ⟨hn, hc, fun x hx e => hh x hx (fun e2 => by rw [e2, m2] at e; cases e; exact h0 rfl) (by rw [e]; simpa using h1)⟩
  refine ⟨hn, fun x hx e => hh x hx (fun e2 => by rw [e2, m2] at e; cases e) (by rw [e]; simp), co', tv, wv', nv, av, hc, ⟨by omega, (hc _ m1).trans m2, hroot⟩, m4.next (f 1 (by omega) (by omega)), hst, ?_, fun i x hx => (m7 i x hx).next (f (4 + i) (by omega) (by omega))⟩
  rcases m6 with m6 | ⟨b, k1, k2, k3, k4⟩
  · exact .inl m6
  · exact .inr ⟨b, k1, by omega, (hc b k2).trans k3, ((f 3 (by omega) (by omega)).2.2 b k2 k3).trans k4⟩

def Rs.push (r : Rs) (p : Pt) : Rs := ⟨p :: r.todo, r.word, r.nodes⟩

theorem f124 (bR : Nat) (g : Gr) (co : Co) (h : Heap) (n : Nat) (r : Rs) (tv wv nv : AV) (av : Nat → AV) (m : Mac bR g co h n r tv wv nv av) (p : Pt) (hl : r.todo.length < 2 ^ 40) :
    FH pg Tq 124 [.ptr bR 0 4, .agg (ePt p)] h n fun _ h' n' => MacR bR g co h n (r.push p) h' n' := by
  have m' := m
  obtain ⟨⟨m1, m2, m3⟩, m4, m5, m6, m7⟩ := m
  have zR : ∀ j, ¬ bR = n + j := fun j => by omega
  have zR' : ¬ bR = n := by omega
  have lR : ∀ j, (bR < n + j) = True := fun j => eq_true (by omega)
  refine FH.of (N := 14) (rs := #[]) Try.func124 rfl rfl (of_decide_eq_true rfl) rfl (by decide) ?_
  refine W.rseq (k := 1) rfl fun K hK => ?_
  simp only [go_sem]
  refine hK _ _ _ ?_
  clear hK K
  rcases m4 with ⟨e0, rfl⟩ | ⟨b, es, rfl, k2, k3, k4, k5, k6⟩
  · refine W.draw (k := 11) rfl ?_
    simp only [go_sem, zR, zR', lR, m3, ne_eq, not_false_eq_true, Int.reduceEq, show (0 : Nat) < 1 by omega, show (0 : Nat) < 4 by omega, show (0 : Nat) < 32 by omega]
    refine ⟨by kernel_rfl, ?_⟩
    refine m'.setTodo (co' := setc co (n + 8) 1) (tv' := .sl (n + 8) 0 1 4) (by omega) (setc_ext (by omega)) (by simp only [go_sem]) (.inr ⟨n + 8, [ePt p], by rw [e0]; rfl, by omega, by simp [setc], ?_, by rw [e0]; simp, by rw [e0]; simp⟩) fun x hx hxR hx1 => ?_
    · simp only [go_sem, show ¬ n + 8 = bR by omega]
    · simp only [go_sem, show ∀ j, ¬ x = n + j from fun j => by omega, show ¬ x = n by omega, hxR]
  · have hbR : ¬ b = bR := fun e => by rw [e, m2] at k3; cases k3
    have zb : ∀ j, ¬ b = n + j := fun j => by omega
    have zb' : ¬ b = n := by omega
    have k4' := k4
    have hrv : ∀ x : List AV, es.take r.todo.length ++ [ePt p] = (p :: r.todo).reverse.map ePt := fun _ => by rw [k6, List.reverse_cons, List.map_append]; rfl
    by_cases hfull : r.todo.length = es.length
    · refine W.draw (k := 11) rfl ?_
      simp only [go_sem, zR, zR', lR, zb, zb', m3, k4, hfull, show ¬ bR = b from fun e => hbR e.symm, Nat.lt_irrefl, and_false, if_false, ne_eq, not_false_eq_true, Int.reduceEq, show (0 : Nat) < 1 by omega, show (0 : Nat) < 4 by omega, show (0 : Nat) < 32 by omega, show (es.length + 1) * 32 ≤ 140737488355328 by omega, show ¬ n + 1 ≤ b by omega]
      refine ⟨by kernel_rfl, ?_⟩
      refine m'.setTodo (co' := setc co (n + 8) 1) (tv' := .sl (n + 8) 0 (es.length + 1) 4) (by omega) (setc_ext (by omega)) (by simp only [go_sem]) (.inr ⟨n + 8, es ++ [ePt p], by rw [← hfull]; rfl, by omega, by simp [setc], ?_, by simp [hfull], ?_⟩) fun x hx hxR hx1 => ?_
      · simp only [go_sem, show ¬ n + 8 = bR by omega]
      · rw [← hrv [], List.length_cons, hfull, List.take_of_length_le (by simp), List.take_length]
      · have hxb : ¬ x = b := fun e => hx1 (by rw [e]; exact k3)
        simp only [go_sem, show ∀ j, ¬ x = n + j from fun j => by omega, show ¬ x = n by omega, hxR, hxb]
    · have hlt : r.todo.length < es.length := by omega
      refine W.draw (k := 11) rfl ?_
      simp only [go_sem, zR, zR', lR, zb, zb', m3, k4, hlt, ne_eq, not_false_eq_true, Int.reduceEq, show (0 : Nat) < 1 by omega, show (0 : Nat) < 4 by omega, show (0 : Nat) < 32 by omega, show (r.todo.length + 1) * 32 ≤ 140737488355328 by omega, show r.todo.length ≤ es.length by omega, show r.todo.length + 1 ≤ es.length by omega, show ¬ bR = b from fun e => hbR e.symm]
      refine ⟨by kernel_rfl, ?_⟩
      refine m'.setTodo (co' := co) (tv' := .sl b 0 (r.todo.length + 1) 4) (by omega) (CoExt.rfl' _ _) (by simp only [go_sem]) (.inr ⟨b, es.take r.todo.length ++ ([ePt p] ++ es.drop (r.todo.length + 1)), rfl, by omega, k3, ?_, ?_, ?_⟩) fun x hx hxR hx1 => ?_
      · simp only [go_sem, hbR]
      · simp; omega
      · rw [← hrv [], List.length_cons, ← List.append_assoc, List.take_append_of_le_length (by simp; omega), List.take_of_length_le (by simp; omega)]
      · have hxb : ¬ x = b := fun e => hx1 (by rw [e]; exact k3)
        simp only [go_sem, show ∀ j, ¬ x = n + j from fun j => by omega, show ¬ x = n by omega, hxR, hxb]

end Go.Av

