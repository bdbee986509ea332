/-
  TopLeast: the tree that is told is the least one. Conditions: none.
-/
import Derived.Test.YtjpkjbobcicfoaaGreatDoorER
import Derived.Test.YtjpkjbobcicfoaaGreatDoorZE
import Derived.Test.YtjpkjbobcicfoaaGreatDoorBF
set_option linter.unusedSimpArgs false
set_option linter.unusedVariables false
namespace Go.Av
open Go.Proofs
set_option maxRecDepth 100000
theorem less_tot : ∀ {a b : List Int}, a ≠ b → lessL a b = true ∨ lessL b a = true
  | [], [], h => absurd rfl h
  | [], _ :: _, _ => .inl rfl
  | _ :: _, [], _ => .inr rfl
  | a :: xs, b :: bs, h => by
    rw [lessL, lessL]
    by_cases e : a = b
    · rw [if_pos e, if_pos e.symm]
      subst e
      exact less_tot fun e => h (by rw [e])
    · rw [if_neg e, if_neg (Ne.symm e)]
      simp only [decide_eq_true_eq]; omega
theorem der_tok {g : Gr} {w : List Int} {P : Int → Prop} (hg : ∀ p ∈ g.prods, ∀ s ∈ p.right, s.non = false → P s.n) {l : List Sy} {a c : Nat} (h : Der g w l a c) : (∀ s ∈ l, s.non = false → P s.n) → ∀ k t, a ≤ k → k < c → w[k]? = some t → P t := by
  induction h with
  | nil _ => intro _ k t h1 h2; omega
  | @term u l a c hw hl ih =>
    intro hs k t h1 h2 h3
    by_cases e : k = a
    · subst e
      rw [hw] at h3; injection h3 with h3
      subst h3
      exact hs ⟨false, u⟩ (by simp) rfl
    · exact ih (fun s hs' => hs s (List.mem_cons_of_mem _ hs')) k t (by omega) h2 h3
  | @non q l a b c hq hr hl ih1 ih2 =>
    intro hs k t h1 h2 h3
    by_cases e : k < b
    · exact ih1 (fun s hs' => hg q hq s hs') k t h1 e h3
    · exact ih2 (fun s hs' => hs s (List.mem_cons_of_mem _ hs')) k t (by omega) h2 h3
theorem der_fits {g : Gr} (hr : right g = true) {w : List Int} (hw : w.length ≤ 24) (h : Der g w [⟨true, g.start⟩] 0 w.length) : fitsW g w = true := by
  obtain ⟨_, hT, _, _, h5⟩ := right_in hr
  have ht : ∀ t ∈ w, 0 ≤ t ∧ t < g.terms := fun t ht => by
    obtain ⟨k, hk⟩ := List.mem_iff_getElem?.1 ht
    refine der_tok (P := fun t => 0 ≤ t ∧ t < g.terms) (fun p hp s hs hn => ?_) h (fun s hs hn => ?_) k t (Nat.zero_le _) (List.getElem?_eq_some_iff.1 hk).1 hk
    · have := (h5 p hp).2.2 s hs
      rw [hn] at this
      simpa using this
    · rw [List.mem_singleton.1 hs] at hn; cases hn
  have hb : ∀ m : Int, (∀ t ∈ w, 0 ≤ t ∧ t < m) → belowB w m = true := fun m q => by
    unfold belowB
    rw [List.all_eq_true]
    intro t ht
    obtain ⟨q1, q2⟩ := q t ht
    simp [q1, q2]
  unfold fitsW rightW
  rw [hb _ ht, hb 16 (fun t q => by have := ht t q; omega), decide_eq_true (by omega)]
  rfl
theorem rf_bool {fr : Bool} {d : Nat} {h : Heap} {r : AV} {b : Bool} (e : rf fr d h r = some (.bool b)) : r = .bool b := by
  cases d with
  | zero => simp [rf] at e
  | succ d =>
    cases r <;> rw [rf] at e <;> first | (injection e with e; exact e) | (injection e with e; cases e; done) | cases e | skip
    all_goals first | rfl | ((repeat' split at e) <;> first | (injection e with e; cases e; done) | (cases e; done))
theorem awake_fh : PF pg Tq 6 [] (.bool true) := by
  obtain ⟨r, h1, x1, d, hs, hr⟩ := awake_pf
  have e := rf_bool hr
  subst e
  exact ⟨_, h1, x1, .semF hs, 4, fun fr => by simp [rf]⟩
set_option maxHeartbeats 32000000 in
theorem fz3 (g : Gr) (hg : g.Small) (ahead other : List Int) (ho : other.length < 2 ^ 60) : FH pg Tq 3 [.agg (eGr g), .ro (ahead.map eIn), .ro (other.map eIn)] h0 0 fun r _ _ => r = .bool true := by
  have hrep := fz7 g hg other ho
  obtain ⟨E, w, hE⟩ : ∃ e w, replayL g other = (e, w) := ⟨_, _, rfl⟩
  rw [hE] at hrep
  simp only at hrep
  refine FH.of (N := 136) (rs := #[.tmp 6]) Tryz.func3 rfl rfl (of_decide_eq_true rfl) rfl (by decide) ?_
  refine W.rseq (k := 2) rfl fun K hK => ?_; simp only [go_sem]; refine hK _ _ _ ?_; clear hK K; refine W.seq ?_; refine W.rseq (k := 2) rfl fun K hK => ?_; simp only [go_sem]; refine VCall.frz 6 awake_fh rfl ?_; try simp only [go_sem]; refine hK _ _ _ ?_; clear hK K; refine W.condF (by simp only [go_sem]) ?_; refine W.skip ?_; simp only [go_sem]; refine W.rseq (k := 8) rfl fun K hK => ?_; simp only [go_sem]; refine VCall.frz 6 hrep rfl ?_; try simp only [go_sem]; refine hK _ _ _ ?_; clear hK K; refine W.seq ?_
  have hyes : ∀ K : Fr → Heap → Nat → Prop, True := fun _ => trivial
  by_cases hE0 : E = 0
  · by_cases ho1 : (other.length : Int) > 100
    · refine W.rseq (k := 22) rfl fun K hK => ?_; simp only [go_sem, hE0, List.length_map, show ((100 : Int) < other.length) = True from eq_true ho1]; refine hK _ _ _ ?_; clear hK K; refine W.condT (by simp only [go_sem]) ?_; refine W.rseq (k := 1) rfl fun K hK => ?_; simp only [go_sem]; refine hK _ _ _ ?_; clear hK K; refine W.ret ?_; simp only [go_sem]
    · cases hL1 : largeS g w
      · cases hL2 : largeS g ahead
        · by_cases hw6 : (w.length : Int) > 6
          · refine W.rseq (k := 22) rfl fun K hK => ?_; simp only [go_sem, hE0, List.length_map, show ((100 : Int) < other.length) = False from eq_false (by omega)]; refine VCall.frz 6 (fz8 g hg w) rfl ?_; simp only [go_sem, hL1]; refine VCall.frz 6 (fz8 g hg ahead) rfl ?_; simp only [go_sem, hL2, List.length_map, show ((6 : Int) < w.length) = True from eq_true hw6]; refine hK _ _ _ ?_
            first | clear hK K | clear hK | skip
            refine W.condT (by simp only [go_sem]) ?_; refine W.rseq (k := 1) rfl fun K hK => ?_; simp only [go_sem]; refine hK _ _ _ ?_; clear hK K; refine W.ret ?_; simp only [go_sem]
          · refine W.rseq (k := 22) rfl fun K hK => ?_; simp only [go_sem, hE0, List.length_map, show ((100 : Int) < other.length) = False from eq_false (by omega)]; refine VCall.frz 6 (fz8 g hg w) rfl ?_; simp only [go_sem, hL1]; refine VCall.frz 6 (fz8 g hg ahead) rfl ?_; simp only [go_sem, hL2, List.length_map, show ((6 : Int) < w.length) = False from eq_false (by omega)]; refine hK _ _ _ ?_
            first | clear hK K | clear hK | skip
            refine W.condF (by simp only [go_sem]) ?_; refine W.skip ?_; simp only [go_sem]
            have hal : ahead.length < 2 ^ 40 := by
              unfold largeS at hL2
              simp only [Bool.or_eq_false_iff, decide_eq_false_iff_not] at hL2
              omega
            refine W.rseq (k := 9) rfl fun K hK => ?_; simp only [go_sem]
            refine VCall.heap (fz9 g hg _ _) fun r h1 n1 hr1 => ?_
            rcases hr1 with ⟨hck, i, rfl⟩ | ⟨hck, bE, bM, gp, rfl, m1, m2, m3, m4, m5⟩
            · simp only [go_sem]; refine hK _ _ _ ?_
              first | clear hK K | clear hK | skip
              refine W.seq ?_; refine W.rseq (k := 2) rfl fun K hK => ?_; simp only [go_sem, show ((checkL g).2 = 0) = False from eq_false hck]; refine hK _ _ _ ?_; clear hK K; refine W.condT (by simp only [go_sem]) ?_; refine W.rseq (k := 3) rfl fun K hK => ?_; simp only [go_sem, aopR, aopX, xBin, xEq, eqP, isNilP, nilEq, five, Cls.five, aNil]; refine hK _ _ _ ?_; clear hK K; refine W.ret ?_; simp only [go_sem]
            · simp only [go_sem]; refine hK _ _ _ ?_
              first | clear hK K | clear hK | skip
              refine W.seq ?_; refine W.rseq (k := 2) rfl fun K hK => ?_; simp only [go_sem]; refine hK _ _ _ ?_; clear hK K; refine W.condF (by simp only [go_sem]) ?_; refine W.skip ?_; simp only [go_sem]
              have hr : right g = true := by
                cases hr : right g
                · have h1 := hck
                  rw [checkL, hr] at h1
                  cases h1
                · rfl
              have hgS : SmG g := ⟨hg, hr⟩
              have hrp : repF g other [⟨true, g.start⟩] [] = (0, w) := by rw [← replay_rep hr (by omega), hE, hE0]
              have hder : Der g w [⟨true, g.start⟩] 0 w.length := by
                have := (rep_der other _ _ _ hrp).2
                simpa using this
              have hfw := der_fits hr (by omega) hder
              have hfg : fitG g w = true := by rw [fitG, hfw, decide_eq_true hck]; rfl
              have hG := fit_good hfg
              refine W.rseq (k := 3) rfl fun K hK => ?_; simp only [go_sem]
              refine VCall.heap (fz10 hgS hck m1 (by omega) ahead hal) fun r h2 n2 ⟨_, p1, p2, p3⟩ => ?_
              simp only [go_sem]; refine hK _ _ _ ?_
              first | clear hK K | clear hK | skip
              refine W.rseq (k := 12) rfl fun K hK => ?_; simp only [go_sem]
              refine VCall.heap (fz10 hgS hck p1 (by omega) w (by omega)) fun r h3 n3 ⟨q0, q1, q2, q3⟩ => ?_
              have k0 : h3 0 = some (.cells [eGr g]) := by
                refine (q3 0 (by omega) (by omega) (by omega)).trans ((p3 0 (by omega) (by omega) (by omega)).trans ((m5 0 (by omega)).trans ?_))
                simp only [go_sem]
              rcases q0 with ⟨s1, rfl⟩ | ⟨_, rfl⟩ | ⟨_, s2, _⟩ | ⟨_, l, hrc, s3, s4, sv, lv, rfl, s5, s6⟩
              · rcases s1 with s1 | s1
                · rw [hfw] at s1; cases s1
                · omega
              · simp only [go_sem]; refine hK _ _ _ ?_
                first | clear hK K | clear hK | skip
                refine W.seq ?_; refine W.rseq (k := 7) rfl fun K hK => ?_; simp only [go_sem]; refine hK _ _ _ ?_; clear hK K; refine W.condT (by simp only [go_sem]) ?_; refine W.rseq (k := 3) rfl fun K hK => ?_; simp only [go_sem]; refine hK _ _ _ ?_; clear hK K; refine W.ret ?_; simp only [go_sem]
              · exact absurd hder s2
              · have hw24 : w.length ≤ 24 := by omega
                obtain ⟨A, hA⟩ : ∃ A, A = (byL g w 0 l).2 := ⟨_, rfl⟩
                obtain ⟨B, hB⟩ : ∃ B, B = (byL g w 1 l).2 := ⟨_, rfl⟩
                have a1 : lessL other A = false := by rw [hA]; exact (by_ends (kind := 0) hG hrc hw24 (by decide) s3 hrp).1 (by decide)
                have a2 : lessL B other = false := by rw [hB]; exact (by_ends (kind := 1) hG hrc hw24 (by decide) s4 hrp).2 rfl
                have a3 : repF g B [⟨true, g.start⟩] [] = (0, w) := by
                  rcases ends_law hG hw24 hrc with ⟨q, _⟩ | ⟨_, q⟩
                  · rw [s3] at q; cases q
                  · rcases q with q | ⟨_, q⟩
                    · rw [s4] at q; cases q
                    · rw [hB]; exact q
                have a4 : lessL B A = false := by rw [hA]; exact (by_ends (kind := 0) hG hrc hw24 (by decide) s3 a3).1 (by decide)
                have hAl : A.length ≤ 2000 := by rw [hA]; exact by_len
                have hBl : B.length ≤ 2000 := by rw [hB]; exact by_len
                have hrB := fz7 g hg B (by omega)
                rw [replay_rep hr hBl, a3] at hrB
                simp only at hrB
                rw [← hA, ← hB] at s5 s6
                rw [← hA, ← hB]
                by_cases he : A = B
                · obtain ⟨⟨S, rfl⟩, rfl⟩ := s5 he
                  have hoA : other = A := by
                    by_cases q : other = A
                    · exact q
                    · rcases less_tot q with q | q
                      · rw [a1] at q; cases q
                      · rw [he] at q; rw [a2] at q; cases q
                  simp only [go_sem, decide_eq_true he]; refine hK _ _ _ ?_
                  first | clear hK K | clear hK | skip
                  refine W.seq ?_; refine W.rseq (k := 7) rfl fun K hK => ?_; simp only [go_sem]; refine hK _ _ _ ?_; clear hK K; refine W.condF (by simp only [go_sem]) ?_; refine W.skip ?_; simp only [go_sem]; refine W.seq ?_; refine W.rseq (k := 20) rfl fun K hK => ?_; simp only [go_sem]; refine VCall.frz 6 (fz11 other A (by omega) (by omega)) rfl ?_; simp only [go_sem, a1]; refine VCall.frz 6 (fz12 other A (by omega) (by omega)) rfl ?_
                  simp only [go_sem, show (other == A) = true by rw [hoA]; exact beq_self_eq_true A]
                  refine hK _ _ _ ?_
                  first | clear hK K | clear hK | skip
                  refine W.condF (by simp only [go_sem]) ?_; refine W.skip ?_; simp only [go_sem]; refine W.seq ?_; refine W.rseq (k := 2) rfl fun K hK => ?_; simp only [go_sem]; refine hK _ _ _ ?_; clear hK K; refine W.condT (by simp only [go_sem]) ?_; refine W.rseq (k := 1) rfl fun K hK => ?_; simp only [go_sem]; refine hK _ _ _ ?_; clear hK K; refine W.ret ?_; simp only [go_sem]
                · obtain ⟨rfl, b, rfl, b1, b2, b3⟩ := s6 he
                  have a5 : lessL A B = true := by
                    rcases less_tot he with q | q
                    · exact q
                    · rw [a4] at q; cases q
                  simp only [go_sem, decide_eq_false he]; refine hK _ _ _ ?_
                  first | clear hK K | clear hK | skip
                  refine W.seq ?_; refine W.rseq (k := 7) rfl fun K hK => ?_; simp only [go_sem]; refine hK _ _ _ ?_; clear hK K; refine W.condF (by simp only [go_sem]) ?_; refine W.skip ?_; simp only [go_sem]; refine W.seq ?_; refine W.rseq (k := 20) rfl fun K hK => ?_; simp only [go_sem]; refine VCall.frz 6 (fz11 other A (by omega) (by omega)) rfl ?_; simp only [go_sem, a1]; refine hK _ _ _ ?_
                  first | clear hK K | clear hK | skip
                  refine W.condF (by simp only [go_sem]) ?_; refine W.skip ?_; simp only [go_sem]; refine W.seq ?_; refine W.rseq (k := 2) rfl fun K hK => ?_; simp only [go_sem]; refine hK _ _ _ ?_; clear hK K; refine W.condF (by simp only [go_sem]) ?_; refine W.skip ?_; simp only [go_sem]; refine W.seq ?_; refine W.rseq (k := 4) rfl fun K hK => ?_; simp only [go_sem]; refine hK _ _ _ ?_; clear hK K; refine W.condF (by simp only [go_sem]) ?_; refine W.skip ?_; simp only [go_sem]
                  have zb : ∀ j, j < 12 → ¬ b = n2 + j := fun j hj => by omega
                  have z0 : ∀ j, ¬ 0 = n2 + j := fun j => by omega
                  have lb : ∀ j, (b < n3 + j) = True := fun j => eq_true (by omega)
                  have l0 : ∀ j, (0 < n3 + j) = True := fun j => eq_true (by omega)
                  have l7 : ∀ j, (n2 + 7 < n3 + j) = True := fun j => eq_true (by omega)
                  have l8 : ∀ j, (n2 + 8 < n3 + j) = True := fun j => eq_true (by omega)
                  refine W.dseq (k := 11) rfl fun K hK => ?_; simp only [go_sem, k0, z0, b3, lb, zb, l0, l7, l8]; refine VCall.frz 6 hrB rfl ?_; simp only [go_sem]; refine hK _ _ _ _ (by kernel_rfl) ?_; clear hK K; refine W.dseq (k := 26) rfl fun K hK => ?_; simp only [go_sem]; refine VCall.frz 6 (fz12 w w (by omega) (by omega)) rfl ?_; simp only [go_sem, beq_self_eq_true w, b3, lb, zb, l7, l8]; refine VCall.frz 6 (fz11 A B (by omega) (by omega)) rfl ?_; simp only [go_sem, a5, b3, lb, zb, l7, l8]; refine VCall.frz 6 (fz11 B other (by omega) (by omega)) rfl ?_; simp only [go_sem, a2]; refine hK _ _ _ _ (by kernel_rfl) ?_; clear hK K; refine W.ret ?_; simp only [go_sem]
        · refine W.rseq (k := 22) rfl fun K hK => ?_; simp only [go_sem, hE0, List.length_map, show ((100 : Int) < other.length) = False from eq_false (by omega)]; refine VCall.frz 6 (fz8 g hg w) rfl ?_; simp only [go_sem, hL1]; refine VCall.frz 6 (fz8 g hg ahead) rfl ?_; simp only [go_sem, hL2]; refine hK _ _ _ ?_
          first | clear hK K | clear hK | skip
          refine W.condT (by simp only [go_sem]) ?_; refine W.rseq (k := 1) rfl fun K hK => ?_; simp only [go_sem]; refine hK _ _ _ ?_; clear hK K; refine W.ret ?_; simp only [go_sem]
      · refine W.rseq (k := 22) rfl fun K hK => ?_; simp only [go_sem, hE0, List.length_map, show ((100 : Int) < other.length) = False from eq_false (by omega)]; refine VCall.frz 6 (fz8 g hg w) rfl ?_; simp only [go_sem, hL1]; refine hK _ _ _ ?_
        first | clear hK K | clear hK | skip
        refine W.condT (by simp only [go_sem]) ?_; refine W.rseq (k := 1) rfl fun K hK => ?_; simp only [go_sem]; refine hK _ _ _ ?_; clear hK K; refine W.ret ?_; simp only [go_sem]
  · refine W.rseq (k := 22) rfl fun K hK => ?_; simp only [go_sem, show (E = 0) = False from eq_false hE0]; refine hK _ _ _ ?_; clear hK K; refine W.condT (by simp only [go_sem]) ?_; refine W.rseq (k := 1) rfl fun K hK => ?_; simp only [go_sem]; refine hK _ _ _ ?_; clear hK K; refine W.ret ?_; simp only [go_sem]
end Go.Av
