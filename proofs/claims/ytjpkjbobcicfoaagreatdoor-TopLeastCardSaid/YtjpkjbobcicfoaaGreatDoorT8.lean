/-
  Layer 15, the document's answer: Replay. Conditions: none.
-/
import Derived.Test.YtjpkjbobcicfoaaGreatDoorT7
set_option linter.unusedSimpArgs false
set_option linter.unusedVariables false
namespace Go.Av
open Go.Proofs
set_option maxRecDepth 100000
def RoC (co : Co) (h : Heap) (n : Nat) (v : AV) (row : List Sy) : Prop := (row = [] ∧ (v = .nils ∨ v = .ro [] ∨ v = .emn)) ∨ (row ≠ [] ∧ ∃ b off es, v = .sl b off row.length 2 ∧ b < n ∧ co b = some 1 ∧ h b = some (.cells es) ∧ off + row.length ≤ es.length ∧ (es.drop off).take row.length = row.map eSy)
theorem RoC.next {co co' : Co} {h h' : Heap} {n n' : Nat} {v : AV} {row : List Sy} (s : RoC co h n v row) (f : Frm 1 co co' h h' n n') : RoC co' h' n' v row := by
  obtain ⟨f1, f2, f3⟩ := f
  rcases s with s | ⟨s0, b, off, es, s1, s2, s3, s4, s5⟩
  · exact .inl s
  · exact .inr ⟨s0, b, off, es, s1, by omega, (f2 b s2).trans s3, (f3 b s2 s3).trans s4, s5⟩
def SlE {α : Type} (e : α → List AV) (sz c : Nat) (co : Co) (h : Heap) (n : Nat) (v : AV) (l : List α) : Prop := (l = [] ∧ v = .emn) ∨ SlC e sz c co h n v l
theorem SlE.next {α : Type} {e : α → List AV} {sz c : Nat} {co co' : Co} {h h' : Heap} {n n' : Nat} {v : AV} {l : List α} (s : SlE e sz c co h n v l) (f : Frm c co co' h h' n n') : SlE e sz c co' h' n' v l :=
  s.imp id fun s => s.next f
theorem SlE.frz {α : Type} {e : α → List AV} {sz c : Nat} {co : Co} {fr : Bool} {h : Heap} {n d : Nat} {v : AV} {l : List α} (s : SlE e sz c co h n v l) (he : ∀ x ∈ l, rfs fr d h (e x) = some (e x)) : rf fr (d + 2) h v = some (.ro (l.map e)) := by
  rcases s with ⟨rfl, rfl⟩ | s
  · simp [rf]
  · exact s.frz he
set_option maxHeartbeats 8000000 in
theorem fz7 (g : Gr) (hg : g.Small) (l : List Int) (hl : l.length < 2 ^ 60) : PF pg Tq 7 [.agg (eGr g), .ro (l.map eIn)] (.tup [.ro ((replayL g l).2.map eIn), .int .i64 (replayL g l).1]) := by
  have hg1 : g.prods.length < 2 ^ 60 := hg.1
  have fin : FH pg Tq 7 [.agg (eGr g), .ro (l.map eIn)] h0 0 fun r h n => ∃ v, r = .tup [v, .int .i64 (replayL g l).1] ∧ ∀ fr, rf fr 4 h v = some (.ro ((replayL g l).2.map eIn)) := by
    refine FH.of (N := 103) (rs := #[.tmp 4, .tmp 5]) Tryz.func7 rfl rfl (of_decide_eq_true rfl) rfl (by decide) ?_
    refine W.rseq (k := 3) rfl fun K hK => ?_; simp only [go_sem]; refine hK _ _ _ ?_; clear hK K; refine W.seq ?_; refine W.rseq (k := 3) rfl fun K hK => ?_; simp only [go_sem]; refine VCall.frz 6 (fz24 g hg) rfl ?_; try simp only [go_sem]; refine hK _ _ _ ?_; clear hK K
    cases hr : right g
    · refine W.condT (by simp only [go_sem]) ?_; refine W.rseq (k := 2) rfl fun K hK => ?_; simp only [go_sem]; refine hK _ _ _ ?_; clear hK K; refine W.ret ?_; simp only [go_sem]
      rw [replayL, hr]
      exact ⟨.nils, rfl, fun fr => by simp [rf]⟩
    refine W.condF (by simp only [go_sem]) ?_; refine W.skip ?_; simp only [go_sem]
    obtain ⟨⟨hn1', hn2⟩, _, ⟨hs1, hs2⟩, hp60, h5⟩ := right_in hr
    by_cases h2 : (2000 : Int) < l.length
    · refine W.seq ?_; refine W.rseq (k := 3) rfl fun K hK => ?_; simp only [go_sem, show decide ((2000 : Int) < l.length) = true from decide_eq_true h2]; refine hK _ _ _ ?_; clear hK K; refine W.condT (by simp only [go_sem]) ?_; refine W.rseq (k := 2) rfl fun K hK => ?_; simp only [go_sem]; refine hK _ _ _ ?_; clear hK K; refine W.ret ?_; simp only [go_sem]
      rw [replayL, hr, if_pos rfl, if_pos (by omega)]
      exact ⟨.nils, rfl, fun fr => by simp [rf]⟩
    refine W.seq ?_; refine W.rseq (k := 3) rfl fun K hK => ?_; simp only [go_sem, show decide ((2000 : Int) < l.length) = false from decide_eq_false h2]; refine hK _ _ _ ?_; clear hK K; refine W.condF (by simp only [go_sem]) ?_; refine W.skip ?_; simp only [go_sem]
    have htop : replayL g l = repF g l [⟨true, g.start⟩] [] := by rw [replayL, hr, if_pos rfl, if_neg (by omega)]
    refine W.rseq (k := 2) rfl fun K hK => ?_; simp only [go_sem]; refine hK _ _ _ ?_; clear hK K; refine W.rseq (k := 5) rfl fun K hK => ?_; simp only [go_sem, show (0 : Nat) < 2 by omega, show ¬ (1 : Nat) = 0 by omega, show (0 : Nat) < 1 by omega]; refine hK _ _ _ ?_; clear hK K; refine W.seq ?_; refine W.rseq (k := 1) rfl fun K hK => ?_; simp only [go_sem]; refine hK _ _ _ ?_; clear hK K
    obtain ⟨tg, htg⟩ : ∃ tg, tg = repF g l [⟨true, g.start⟩] [] := ⟨_, rfl⟩
    refine W.block (W.while (fun m t h n => ∃ (i : Nat) (row : List Sy) (word : List Int) (co : Co), m = l.length + 1 - i ∧ i ≤ l.length + 1 ∧ 0 < n ∧ row.length + word.length ≤ 9 * i + 1 ∧ (i ≤ l.length → repF g (l.drop i) row word = tg) ∧ (i = l.length + 1 → (match row with | [] => ((0 : Int), word) | _ :: _ => (3, [])) = tg) ∧ (t 1 = .ro (l.map eIn) ∧ t 2 = .ptr 0 0 0) ∧ t 8 = .int .i64 i ∧ SlE eIn 1 2 co h n (t 6) word ∧ RoC co h n (t 7) row ∧ co 0 = none ∧ h 0 = some (.cells [eGr g])) (l.length + 1)
      ⟨0, [⟨true, g.start⟩], [], setc (fun _ => none) 14 1, by simp, by simp, by omega, by simp, fun _ => htg.symm, fun e => by omega, ⟨rfl, rfl⟩, rfl, .inl ⟨rfl, rfl⟩, .inr ⟨by simp, 14, 0, [[.bool true, .int .i64 g.start]], rfl, by omega, by simp [setc], by simp only [go_sem], by simp, rfl⟩, by simp [setc], by simp only [go_sem]⟩ fun m t h n ⟨i, row, word, co, i1, i2, i3, i4, i5, i6, i7, i8, i9, i10, i11, i12⟩ => ?_)
    have i7' := i7
    obtain ⟨a1, a2⟩ := i7'
    refine W.seq ?_; refine W.rseq (k := 4) rfl fun K hK => ?_; simp only [go_sem, a1, i8]; refine hK _ _ _ ?_; clear hK K
    refine W.cond rfl (fun hc => ?_) fun hc => ?_
    · refine W.skip ?_; simp only [go_sem]
      have hi : i ≤ l.length := by simp at hc; omega
      replace i5 := i5 hi
      refine W.seqk fun K hK => ?_
      have nx : ∀ (t' : Fr) (h' : Heap) (n' : Nat) (row : List Sy) (word : List Int) (co : Co), 0 < n' → row.length + word.length ≤ 9 * (i + 1) + 1 → (i + 1 ≤ l.length → repF g (l.drop (i + 1)) row word = tg) → (i + 1 = l.length + 1 → (match row with | [] => ((0 : Int), word) | _ :: _ => (3, [])) = tg) → (t' 1 = .ro (l.map eIn) ∧ t' 2 = .ptr 0 0 0) → t' 8 = .int .i64 i → SlE eIn 1 2 co h' n' (t' 6) word → RoC co h' n' (t' 7) row → co 0 = none → h' 0 = some (.cells [eGr g]) → K t' h' n' := by
        intro t' h' n' row word co e1 e2 e3 e4 e5 e6 e7 e8 e9 e10; refine hK _ _ _ ?_; refine W.region (k := 3) rfl ?_; simp only [go_sem, e6]
        refine ⟨l.length + 1 - (i + 1), by omega, i + 1, row, word, co, rfl, by omega, by omega, e2, e3, e4, e5, ?_, ?_, ?_, e9, by simp only [go_sem, e10]⟩
        · rw [wrap64 (by omega) (by omega)]; rfl
        · exact e7.next ⟨by omega, CoExt.rfl' _ _, fun x hx _ => by simp only [go_sem]⟩
        · exact e8.next ⟨by omega, CoExt.rfl' _ _, fun x hx _ => by simp only [go_sem]⟩
      clear hK; refine W.block ?_; refine W.seqk fun K hK => ?_
      have nx2 : ∀ (t' : Fr) (h' : Heap) (n' : Nat) (row : List Sy) (word : List Int) (co : Co), 0 < n' → row.length + word.length ≤ 9 * i + 1 → strip row word = (row, word) → repF g (l.drop i) row word = tg → (t' 1 = .ro (l.map eIn) ∧ t' 2 = .ptr 0 0 0) → t' 8 = .int .i64 i → SlE eIn 1 2 co h' n' (t' 6) word → RoC co h' n' (t' 7) row → co 0 = none → h' 0 = some (.cells [eGr g]) → K t' h' n' := by
        intro t h n row word co e1 e2 e3 e4 e5 e6 e7 e8 e9 e10
        have e5' := e5
        obtain ⟨a1, a2⟩ := e5'
        refine hK _ _ _ ?_; clear hK
        have frS : ∀ {n' : Nat}, n ≤ n' → SlE eIn 1 2 co h n' (t 6) word := fun hn => e7.next ⟨hn, CoExt.rfl' _ _, fun x hx _ => rfl⟩
        have frR : ∀ {n' : Nat}, n ≤ n' → RoC co h n' (t 7) row := fun hn => e8.next ⟨hn, CoExt.rfl' _ _, fun x hx _ => rfl⟩
        by_cases hil : i = l.length
        · rw [hil, List.drop_length, repF, e3] at e4
          refine W.seq ?_; refine W.rseq (k := 4) rfl fun K hK => ?_; simp only [go_sem, a1, e6, show decide ((i : Int) = (l.length : Int)) = true from decide_eq_true (by omega)]; refine hK _ _ _ ?_; clear hK K; refine W.condT (by simp only [go_sem]) ?_; refine W.exit ?_; simp only [go_sem]
          refine nx _ _ _ row word co (by omega) (by omega) (fun h => by omega) (fun _ => ?_) e5 e6 (frS (by omega)) (frR (by omega)) e9 e10
          rw [← e4]
          cases row <;> rfl
        obtain ⟨x, hx⟩ := get_some (show i < l.length by omega)
        have hd : l.drop i = x :: l.drop (i + 1) := by
          rw [List.drop_eq_getElem_cons (by omega)]
          congr 1
          exact (List.getElem_eq_iff _).2 hx
        rw [hd, repF, e3] at e4
        refine W.seq ?_; refine W.rseq (k := 4) rfl fun K hK => ?_; simp only [go_sem, a1, e6, show decide ((i : Int) = (l.length : Int)) = false from decide_eq_false (by omega)]; refine hK _ _ _ ?_; clear hK K; refine W.condF (by simp only [go_sem]) ?_; refine W.skip ?_; simp only [go_sem]
        have bad : (2, ([] : List Int)) = tg → ∃ v, AV.tup [.nils, .int .i64 2] = .tup [v, .int .i64 (replayL g l).1] ∧ ∀ (h' : Heap) fr, rf fr 4 h' v = some (.ro ((replayL g l).2.map eIn)) := fun e => by
          rw [htop, ← htg, ← e]
          exact ⟨.nils, rfl, fun h' fr => by simp [rf]⟩
        rcases e8 with ⟨f0, e8⟩ | ⟨hne, b, off, es, f7, f1, f2, f3, f4, f5⟩
        · rw [f0] at e4
          simp only at e4
          obtain ⟨v, q1, q2⟩ := bad e4
          rcases e8 with e8 | e8 | e8
          all_goals
            refine W.seq ?_; refine W.dseq (k := 36) rfl fun K hK => ?_; simp only [go_sem, e8, Int.natCast_zero]; refine hK _ _ _ _ (by kernel_rfl) ?_; clear hK K; refine W.condT (by simp only [go_sem]) ?_; refine W.rseq (k := 2) rfl fun K hK => ?_; simp only [go_sem]; refine hK _ _ _ ?_; clear hK K; refine W.ret ?_; simp only [go_sem]
            exact ⟨v, q1, fun fr => q2 _ fr⟩
        obtain ⟨s, r, rfl⟩ : ∃ s r, row = s :: r := by
          cases row with
          | nil => exact absurd rfl hne
          | cons s r => exact ⟨s, r, rfl⟩
        rw [List.length_cons] at f7 f4 f5
        simp only at e4
        have hs0 : es[off]? = some (eSy s) := by
          have := congrArg (fun l => l[0]?) f5
          simpa [List.getElem?_take, List.getElem?_drop] using this
        have hsd : (es.drop (off + 1)).take r.length = r.map eSy := by
          have := congrArg (fun l => l.drop 1) f5
          rw [List.drop_take, List.drop_drop] at this
          simpa using this
        have zb : ∀ j, ¬ b = n + j := fun j => by omega
        have z0 : ∀ j, ¬ 0 = n + j := fun j => by omega
        have lb : ∀ j, (b < n + j) = True := fun j => eq_true (by omega)
        have l0 : ∀ j, (0 < n + j) = True := fun j => eq_true (by omega)
        have hd0 : decide (((r.length + 1 : Nat) : Int) = 0) = false := decide_eq_false (by omega)
        by_cases hx0 : x < 0
        · have hok : okP g x s.n = none := by rw [okP, if_neg (by omega)]
          rw [hok] at e4
          obtain ⟨v, q1, q2⟩ := bad e4
          refine W.seq ?_; refine W.dseq (k := 36) rfl fun K hK => ?_; simp only [go_sem, f7, hd0, a1, e6, hx, show decide (x < 0) = true from decide_eq_true hx0]; refine hK _ _ _ _ (by kernel_rfl) ?_; clear hK K; refine W.condT (by simp only [go_sem]) ?_; refine W.rseq (k := 2) rfl fun K hK => ?_; simp only [go_sem]; refine hK _ _ _ ?_; clear hK K; refine W.ret ?_; simp only [go_sem]
          exact ⟨v, q1, fun fr => q2 _ fr⟩
        obtain ⟨ξ, rfl⟩ : ∃ ξ : Nat, x = ξ := ⟨x.toNat, by omega⟩
        by_cases hxl : (g.prods.length : Int) ≤ (ξ : Int)
        · have hok : okP g ξ s.n = none := by
            rw [okP, if_pos (by omega), List.getElem?_eq_none (by omega)]; rfl
          rw [hok] at e4
          obtain ⟨v, q1, q2⟩ := bad e4
          refine W.seq ?_; refine W.dseq (k := 36) rfl fun K hK => ?_; simp only [go_sem, f7, hd0, a1, a2, e6, hx, e10, l0, show decide ((ξ : Int) < 0) = false from decide_eq_false hx0, show decide ((ξ : Int) ≥ (g.prods.length : Int)) = true from decide_eq_true hxl]; refine hK _ _ _ _ (by kernel_rfl) ?_; clear hK K; refine W.condT (by simp only [go_sem]) ?_; refine W.rseq (k := 2) rfl fun K hK => ?_; simp only [go_sem]; refine hK _ _ _ ?_; clear hK K; refine W.ret ?_; simp only [go_sem]
          exact ⟨v, q1, fun fr => q2 _ fr⟩
        obtain ⟨p, hp⟩ := get_some (show ξ < g.prods.length by omega)
        by_cases hpl : ¬ p.left = s.n
        · have hok : okP g ξ s.n = none := by
            rw [okP, if_pos (by omega), Int.toNat_natCast, hp]
            simp [hpl]
          rw [hok] at e4
          obtain ⟨v, q1, q2⟩ := bad e4
          refine W.seq ?_; refine W.dseq (k := 36) rfl fun K hK => ?_; simp only [go_sem, f7, hd0, a1, a2, e6, hx, e10, l0, lb, f3, hs0, hp, show decide ((ξ : Int) < 0) = false from decide_eq_false hx0, show decide ((ξ : Int) ≥ (g.prods.length : Int)) = false from decide_eq_false hxl, show decide (p.left = s.n) = false from decide_eq_false hpl, show (0 : Int) < ((r.length + 1 : Nat) : Int) by omega]; refine hK _ _ _ _ (by kernel_rfl) ?_; clear hK K; refine W.condT (by simp only [go_sem]) ?_; refine W.rseq (k := 2) rfl fun K hK => ?_; simp only [go_sem]; refine hK _ _ _ ?_; clear hK K; refine W.ret ?_; simp only [go_sem]
          exact ⟨v, q1, fun fr => q2 _ fr⟩
        replace hpl := Decidable.of_not_not hpl
        have hok : okP g ξ s.n = some p := by
          rw [okP, if_pos (by omega), Int.toNat_natCast, hp]
          simp [hpl]
        rw [hok] at e4
        simp only at e4
        have h8 : p.right.length ≤ 8 := (h5 p (List.mem_of_getElem? hp)).2.1
        refine W.seq ?_; refine W.dseq (k := 36) rfl fun K hK => ?_; simp only [go_sem, f7, hd0, a1, a2, e6, hx, e10, l0, lb, f3, hs0, hp, hpl, show decide ((ξ : Int) < 0) = false from decide_eq_false hx0, show decide ((ξ : Int) ≥ (g.prods.length : Int)) = false from decide_eq_false hxl, show (0 : Int) < ((r.length + 1 : Nat) : Int) by omega]; refine hK _ _ _ _ (by kernel_rfl) ?_; clear hK K; refine W.condF (by simp only [go_sem]) ?_; refine W.skip ?_; simp only [go_sem]
        obtain ⟨E, hE⟩ : ∃ E, E = p.right.map eSy := ⟨_, rfl⟩
        have hEl : E.length = p.right.length := by rw [hE]; simp
        have hE2 : (∀ e ∈ E, e.length = 2) = True := by rw [hE]; exact len_map (e := eSy) (sz := 2) (fun _ => rfl)
        have hrl : r.length < 2 ^ 30 := by simp only [List.length_cons] at e2; omega
        have hEe : p.right ≠ [] → E.isEmpty = false := fun h => by
          cases hpr : p.right with
          | nil => exact absurd hpr h
          | cons _ _ => rw [hE, hpr]; rfl
        have hre : r ≠ [] → (r.map eSy).isEmpty = false := fun h => by
          cases r with
          | nil => exact absurd rfl h
          | cons _ _ => rfl
        have hr1 : r ≠ [] → ¬ (1 = r.length + 1) := fun h e => h (List.eq_nil_of_length_eq_zero (by omega))
        refine W.draw (k := 15) rfl ?_
        by_cases hp0 : p.right = []
        · have hE0 : E = [] := by rw [hE, hp0]; rfl
          rw [hE0] at hE
          by_cases hr0 : r = []
          · simp only [go_sem, hr0, f7, a1, a2, e6, hx, e10, l0, lb, z0, zb, f3, hp, ← hE, hEl, hE2, ne_eq, not_false_eq_true, Int.reduceEq, Nat.lt_irrefl, Nat.zero_le, and_false, if_false, Nat.le_add_right, show (0 : Nat) < 2 by omega, show (0 : Nat) < 16 by omega, show (1 : Nat) ≤ r.length + 1 by omega, show ¬ (1 : Nat) = 0 by omega, show r.length + 1 - 1 = r.length by omega, hsd, show off + (1 + r.length) ≤ es.length by omega, show p.right.length * 16 ≤ 140737488355328 by omega, show r.length * 16 ≤ 140737488355328 by omega, show (p.right.length + r.length) * 16 ≤ 140737488355328 by omega, List.length_map, List.append_nil, List.not_mem_nil, false_implies, implies_true, List.isEmpty_nil, List.map_nil, List.length_nil, show ((1 : Nat) = 0 + 1) = True from eq_true rfl]; refine ⟨by kernel_rfl, ?_⟩; try simp only [go_sem]
            refine nx _ _ _ (p.right ++ r) word (setc co (n + 53) 1) (by omega) (by simp; simp at e2; omega) (fun _ => e4) (fun h => by omega) e5 e6 (e7.next ⟨by omega, setc_ext (by omega), fun x hx _ => ?_⟩) (.inl ⟨by rw [hp0, hr0]; rfl, .inr (.inr rfl)⟩) (by rw [setc, if_neg (z0 53)]; exact e9) ?_
            · simp only [go_sem, show ∀ j, ¬ x = n + j from fun j => by omega]
            · simp only [go_sem, z0, e10]
          · simp only [go_sem, f7, a1, a2, e6, hx, e10, l0, lb, z0, zb, f3, hp, ← hE, hEl, hE2, ne_eq, not_false_eq_true, Int.reduceEq, Nat.lt_irrefl, Nat.zero_le, and_false, if_false, Nat.le_add_right, show (0 : Nat) < 2 by omega, show (0 : Nat) < 16 by omega, show (1 : Nat) ≤ r.length + 1 by omega, show ¬ (1 : Nat) = 0 by omega, show r.length + 1 - 1 = r.length by omega, hsd, show off + (1 + r.length) ≤ es.length by omega, show p.right.length * 16 ≤ 140737488355328 by omega, show r.length * 16 ≤ 140737488355328 by omega, show (p.right.length + r.length) * 16 ≤ 140737488355328 by omega, List.length_map, List.append_nil, List.not_mem_nil, false_implies, implies_true, List.isEmpty_nil, List.map_nil, List.length_nil, hre hr0, show (1 = r.length + 1) = False from eq_false (hr1 hr0)]; refine ⟨by kernel_rfl, ?_⟩; try simp only [go_sem]
            refine nx _ _ _ (p.right ++ r) word (setc co (n + 53) 1) (by omega) (by simp; simp at e2; omega) (fun _ => e4) (fun h => by omega) e5 e6 (e7.next ⟨by omega, setc_ext (by omega), fun x hx _ => ?_⟩) (.inr ⟨by simp [hr0], n + 53, 0, r.map eSy, by rw [hp0]; rfl, by omega, by simp [setc], ?_, by simp [hp0], by rw [hp0, List.nil_append, List.drop_zero, List.take_of_length_le (by simp)]⟩) (by rw [setc, if_neg (z0 53)]; exact e9) ?_
            · simp only [go_sem, show ∀ j, ¬ x = n + j from fun j => by omega]
            · simp only [go_sem]
            · simp only [go_sem, z0, e10]
        · by_cases hr0 : r = []
          · simp only [go_sem, hr0, f7, a1, a2, e6, hx, e10, l0, lb, z0, zb, f3, hp, ← hE, hEl, hE2, ne_eq, not_false_eq_true, Int.reduceEq, Nat.lt_irrefl, Nat.zero_le, and_false, if_false, Nat.le_add_right, show (0 : Nat) < 2 by omega, show (0 : Nat) < 16 by omega, show (1 : Nat) ≤ r.length + 1 by omega, show ¬ (1 : Nat) = 0 by omega, show r.length + 1 - 1 = r.length by omega, hsd, show off + (1 + r.length) ≤ es.length by omega, show p.right.length * 16 ≤ 140737488355328 by omega, show r.length * 16 ≤ 140737488355328 by omega, show (p.right.length + r.length) * 16 ≤ 140737488355328 by omega, List.length_map, List.append_nil, List.not_mem_nil, false_implies, implies_true, List.isEmpty_nil, List.map_nil, List.length_nil, hEe hp0, show ((1 : Nat) = 0 + 1) = True from eq_true rfl]; refine ⟨by kernel_rfl, ?_⟩; try simp only [go_sem]
            refine nx _ _ _ (p.right ++ r) word (setc co (n + 53) 1) (by omega) (by simp; simp at e2; omega) (fun _ => e4) (fun h => by omega) e5 e6 (e7.next ⟨by omega, setc_ext (by omega), fun x hx _ => ?_⟩) (.inr ⟨by simp [hp0], n + 53, 0, E, by rw [hr0, List.append_nil]; rfl, by omega, by simp [setc], ?_, by simp [hEl, hr0], by rw [hr0, List.append_nil, hE, List.drop_zero, List.take_of_length_le (by simp)]⟩) (by rw [setc, if_neg (z0 53)]; exact e9) ?_
            · simp only [go_sem, show ∀ j, ¬ x = n + j from fun j => by omega]
            · simp only [go_sem]
            · simp only [go_sem, z0, e10]
          · simp only [go_sem, f7, a1, a2, e6, hx, e10, l0, lb, z0, zb, f3, hp, ← hE, hEl, hE2, ne_eq, not_false_eq_true, Int.reduceEq, Nat.lt_irrefl, Nat.zero_le, and_false, if_false, Nat.le_add_right, show (0 : Nat) < 2 by omega, show (0 : Nat) < 16 by omega, show (1 : Nat) ≤ r.length + 1 by omega, show ¬ (1 : Nat) = 0 by omega, show r.length + 1 - 1 = r.length by omega, hsd, show off + (1 + r.length) ≤ es.length by omega, show p.right.length * 16 ≤ 140737488355328 by omega, show r.length * 16 ≤ 140737488355328 by omega, show (p.right.length + r.length) * 16 ≤ 140737488355328 by omega, List.length_map, hEe hp0, show (1 = r.length + 1) = False from eq_false (hr1 hr0)]; refine ⟨by kernel_rfl, ?_⟩; try simp only [go_sem]
            refine nx _ _ _ (p.right ++ r) word (setc co (n + 53) 1) (by omega) (by simp; simp at e2; omega) (fun _ => e4) (fun h => by omega) e5 e6 (e7.next ⟨by omega, setc_ext (by omega), fun x hx _ => ?_⟩) (.inr ⟨by simp [hp0], n + 53, 0, E ++ r.map eSy, by rw [List.length_append]; rfl, by omega, by simp [setc], ?_, by simp [hEl], by rw [hE, List.drop_zero, ← List.map_append, List.take_of_length_le (by simp)]⟩) (by rw [setc, if_neg (z0 53)]; exact e9) ?_
            · simp only [go_sem, show ∀ j, ¬ x = n + j from fun j => by omega]
            · simp only [go_sem]
            · simp only [go_sem, z0, e10]
      clear hK
      refine W.block (W.while (fun k t' h' n' => ∃ (row' : List Sy) (word' : List Int) (co' : Co), k = row'.length ∧ 0 < n' ∧ row'.length + word'.length ≤ 9 * i + 1 ∧ repF g (l.drop i) row' word' = tg ∧ (t' 1 = .ro (l.map eIn) ∧ t' 2 = .ptr 0 0 0) ∧ t' 8 = .int .i64 i ∧ SlE eIn 1 2 co' h' n' (t' 6) word' ∧ RoC co' h' n' (t' 7) row' ∧ co' 0 = none ∧ h' 0 = some (.cells [eGr g])) row.length
        ⟨row, word, co, rfl, by omega, i4, i5, i7, i8, ?_, ?_, i11, by simp only [go_sem, i12]⟩ fun k t h n ⟨row, word, co, j1, j2, j3, j4, j5, j6, j7, j8, j9, j10⟩ => ?_)
      · exact i9.next ⟨by omega, CoExt.rfl' _ _, fun x hx _ => by simp only [go_sem]⟩
      · exact i10.next ⟨by omega, CoExt.rfl' _ _, fun x hx _ => by simp only [go_sem]⟩
      have rp : ∀ (s : Sy) (r : List Sy) (w : List Int), s.non = false → repF g (l.drop i) (s :: r) w = repF g (l.drop i) r (w ++ [s.n]) := by
        intro s r w hs
        have : strip (s :: r) w = strip r (w ++ [s.n]) := by rw [strip, hs]; rfl
        cases l.drop i <;> simp [repF, this]
      rcases j8 with ⟨e0, e7⟩ | ⟨hne, b, off, es, e7, b1, b2, b3, b4, b5⟩
      · have hst : strip row word = (row, word) := by rw [e0]; rfl
        rcases e7 with e7 | e7 | e7
        all_goals
          refine W.seq ?_; refine W.rseq (k := 10) rfl fun K hK => ?_; simp only [go_sem, e7, Int.natCast_zero]; refine hK _ _ _ ?_; clear hK K; refine W.condF (by simp only [go_sem]) ?_; refine W.exit ?_; simp only [go_sem]
          exact nx2 _ _ _ row word co (by omega) j3 hst j4 j5 j6 (j7.next ⟨by omega, CoExt.rfl' _ _, fun x hx _ => by simp only [go_sem]⟩) (.inl ⟨e0, by simp [put, e7]⟩) j9 (by simp only [go_sem, j10])
      obtain ⟨s, r, rfl⟩ : ∃ s r, row = s :: r := by
        cases row with
        | nil => exact absurd rfl hne
        | cons s r => exact ⟨s, r, rfl⟩
      rw [List.length_cons] at e7 b4 b5
      have hs0 : es[off]? = some (eSy s) := by
        have := congrArg (fun l => l[0]?) b5
        simpa [List.getElem?_take, List.getElem?_drop] using this
      have hsd : (es.drop (off + 1)).take r.length = r.map eSy := by
        have := congrArg (fun l => l.drop 1) b5
        rw [List.drop_take, List.drop_drop] at this
        simpa using this
      have zb : ∀ j, ¬ b = n + j := fun j => by omega
      have z0 : ∀ j, ¬ 0 = n + j := fun j => by omega
      have lb : ∀ j, (b < n + j) = True := fun j => eq_true (by omega)
      have l0 : ∀ j, (0 < n + j) = True := fun j => eq_true (by omega)
      have hb0 : ¬ b = 0 := fun e => by rw [e, j9] at b2; cases b2
      rcases Bool.eq_false_or_eq_true s.non with hsn | hsn
      · have hst : strip (s :: r) word = (s :: r, word) := by rw [strip, hsn]; rfl
        refine W.seq ?_; refine W.rseq (k := 10) rfl fun K hK => ?_; simp only [go_sem, e7, hs0, b3, hsn, zb, lb, show decide (((r.length + 1 : Nat) : Int) > 0) = true from decide_eq_true (by omega), show (0 : Int) < ((r.length + 1 : Nat) : Int) by omega]; refine hK _ _ _ ?_; clear hK K; refine W.condF (by simp only [go_sem]) ?_; refine W.exit ?_; simp only [go_sem]
        exact nx2 _ _ _ (s :: r) word co (by omega) j3 hst j4 j5 j6 (j7.next ⟨by omega, CoExt.rfl' _ _, fun x hx _ => by simp only [go_sem]⟩) (.inr ⟨by simp, b, off, es, e7, by omega, b2, by simp only [go_sem, b3], b4, b5⟩) j9 (by simp only [go_sem, j10])
      rw [rp s r word hsn] at j4
      simp only [List.length_cons] at j3
      refine W.seq ?_; refine W.rseq (k := 10) rfl fun K hK => ?_; simp only [go_sem, e7, hs0, b3, hsn, zb, lb, show decide (((r.length + 1 : Nat) : Int) > 0) = true from decide_eq_true (by omega), show (0 : Int) < ((r.length + 1 : Nat) : Int) by omega]; refine hK _ _ _ ?_; clear hK K; refine W.condT (by simp only [go_sem]) ?_; refine W.skip ?_; simp only [go_sem]; refine W.block ?_; refine W.seqk fun K hK => ?_
      have nx3 : ∀ (t' : Fr) (h' : Heap) (n' : Nat) (co' : Co), n ≤ n' → (t' 1 = .ro (l.map eIn) ∧ t' 2 = .ptr 0 0 0) → t' 8 = .int .i64 i → SlE eIn 1 2 co' h' n' (t' 6) (word ++ [s.n]) → t' 7 = .sl b off (r.length + 1) 2 → co' b = some 1 → h' b = some (.cells es) → co' 0 = none → h' 0 = some (.cells [eGr g]) → K t' h' n' := by
        intro t' h' n' co' c0 c1 c2 c3 c4 c5 c6 c7 c8; refine hK _ _ _ ?_
        by_cases hr0 : r = []
        · refine W.region (k := 3) rfl ?_; simp only [go_sem, c4, hr0, List.length_nil, Nat.zero_add, show (1 : Int) ≥ 0 by omega]
          refine ⟨r.length, by rw [j1]; simp, r, word ++ [s.n], co', rfl, by omega, by simp; omega, j4, c1, c2, c3.next ⟨by omega, CoExt.rfl' _ _, fun x hx _ => by simp only [go_sem]⟩, .inl ⟨hr0, .inr (.inl rfl)⟩, c7, by simp only [go_sem, c8]⟩
        · have hr1 : 0 < r.length := by
            cases r with
            | nil => exact absurd rfl hr0
            | cons _ _ => simp
          refine W.region (k := 3) rfl ?_; simp only [go_sem, c4, show (1 : Nat) ≤ r.length + 1 by omega, show ¬ (1 : Nat) = 0 by omega, show ¬ (1 = r.length + 1) by omega, show r.length + 1 - 1 = r.length by omega]
          refine ⟨r.length, by rw [j1]; simp, r, word ++ [s.n], co', rfl, by omega, by simp; omega, j4, c1, c2, c3.next ⟨by omega, CoExt.rfl' _ _, fun x hx _ => by simp only [go_sem]⟩, .inr ⟨hr0, b, off + 1, es, rfl, by omega, c5, by simp only [go_sem, c6], by omega, hsd⟩, c7, by simp only [go_sem, c8]⟩
      clear hK
      have hwl : word.length < 2 ^ 30 := by omega
      rcases j7 with ⟨w0, w6⟩ | ⟨w0, w6⟩ | ⟨bw, w6, w1, w2, w3⟩
      · refine W.region (k := 8) rfl ?_; simp only [go_sem, e7, w6, hs0, b3, zb, lb, show (0 : Int) < ((r.length + 1 : Nat) : Int) by omega, ne_eq, not_false_eq_true, Int.reduceEq, show (0 : Nat) < 1 by omega, show (0 : Nat) < 8 by omega]
        refine nx3 _ _ _ (setc co (n + 16) 2) (by omega) j5 j6 (.inr (.inr ⟨n + 16, by rw [w0]; rfl, by omega, by simp [setc], ?_⟩)) e7 (by rw [setc, if_neg (zb 16)]; exact b2) (by simp only [go_sem, zb, b3]) (by rw [setc, if_neg (z0 16)]; exact j9) (by simp only [go_sem, z0, j10])
        simp only [go_sem, w0]; rfl
      · refine W.region (k := 8) rfl ?_; simp only [go_sem, e7, w6, hs0, b3, zb, lb, show (0 : Int) < ((r.length + 1 : Nat) : Int) by omega, ne_eq, not_false_eq_true, Int.reduceEq, show (0 : Nat) < 1 by omega, show (0 : Nat) < 8 by omega]
        refine nx3 _ _ _ (setc co (n + 16) 2) (by omega) j5 j6 (.inr (.inr ⟨n + 16, by rw [w0]; rfl, by omega, by simp [setc], ?_⟩)) e7 (by rw [setc, if_neg (zb 16)]; exact b2) (by simp only [go_sem, zb, b3]) (by rw [setc, if_neg (z0 16)]; exact j9) (by simp only [go_sem, z0, j10])
        simp only [go_sem, w0]; rfl
      · have zw : ∀ j, ¬ bw = n + j := fun j => by omega
        have hbw : ¬ b = bw := fun e => by rw [e, w2] at b2; injection b2 with b2; omega
        have h0w : ¬ 0 = bw := fun e => by rw [← e, j9] at w2; cases w2
        refine W.region (k := 8) rfl ?_; simp only [go_sem, e7, w6, w3, hs0, b3, zb, lb, zw, show (0 : Int) < ((r.length + 1 : Nat) : Int) by omega, Nat.lt_irrefl, and_false, if_false, ne_eq, not_false_eq_true, Int.reduceEq, show (0 : Nat) < 1 by omega, show (0 : Nat) < 8 by omega, show (word.length + 1) * 8 ≤ 140737488355328 by omega]
        refine nx3 _ _ _ (setc co (n + 16) 2) (by omega) j5 j6 (.inr (.inr ⟨n + 16, by rw [List.length_append]; rfl, by omega, by simp [setc], ?_⟩)) e7 (by rw [setc, if_neg (zb 16)]; exact b2) (by simp only [go_sem, zb, hbw, b3]) (by rw [setc, if_neg (z0 16)]; exact j9) (by simp only [go_sem, z0, h0w, j10])
        simp only [go_sem, List.map_append]; rfl
    · refine W.exit ?_; simp only [go_sem]
      have hi : i = l.length + 1 := by simp at hc; omega
      replace i6 := i6 hi
      have hw : ∀ fr, rf fr 4 h (t 6) = some (.ro (word.map eIn)) := fun fr => i9.frz (d := 2) fun x _ => by simp [rfs, rf, eIn]
      have hcg : ∀ {h' : Heap} {n' : Nat}, n ≤ n' → (∀ x, x < n → h' x = h x) → ∀ fr, rf fr 4 h' (t 6) = some (.ro (word.map eIn)) := fun hn hh fr =>
        (i9.next (n' := _) (co' := co) ⟨hn, CoExt.rfl' _ _, fun x hx _ => hh x hx⟩).frz (d := 2) fun x _ => by simp [rfs, rf, eIn]
      rcases i10 with ⟨e0, e7⟩ | ⟨hne, b, off, es, e7, b1, b2, b3, b4, b5⟩
      · rw [e0] at i6
        simp only at i6
        have ht2 : replayL g l = (0, word) := by rw [htop, ← htg, ← i6]
        rcases e7 with e7 | e7 | e7
        all_goals
          refine W.seq ?_; refine W.rseq (k := 3) rfl fun K hK => ?_; simp only [go_sem, e7, Int.natCast_zero]; refine hK _ _ _ ?_; clear hK K; refine W.condF (by simp only [go_sem]) ?_; refine W.skip ?_; simp only [go_sem]; refine W.rseq (k := 3) rfl fun K hK => ?_; simp only [go_sem]; refine hK _ _ _ ?_; clear hK K; refine W.ret ?_; simp only [go_sem]
          rw [ht2]
          exact ⟨_, rfl, hcg (n' := n) (Nat.le_refl _) fun x hx => by simp only [go_sem]⟩
      · have hpos : 0 < row.length := List.length_pos_iff.2 hne
        have i6' : (3, ([] : List Int)) = tg := by
          cases row with
          | nil => exact absurd rfl hne
          | cons s r => exact i6
        have ht2 : replayL g l = (3, []) := by rw [htop, ← htg, ← i6']
        refine W.seq ?_; refine W.rseq (k := 3) rfl fun K hK => ?_; simp only [go_sem, e7, show decide ((row.length : Int) > 0) = true from decide_eq_true (by omega)]; refine hK _ _ _ ?_; clear hK K; refine W.condT (by simp only [go_sem]) ?_; refine W.rseq (k := 2) rfl fun K hK => ?_; simp only [go_sem]; refine hK _ _ _ ?_; clear hK K; refine W.ret ?_; simp only [go_sem]
        rw [ht2]
        exact ⟨_, rfl, fun fr => by simp [rf]⟩
  obtain ⟨r, h', n', hb, v, rfl, hv⟩ := fin
  exact ⟨_, h', n', hb, 6, fun fr => rf_tup2 (hv fr) (by omega)⟩
end Go.Av
