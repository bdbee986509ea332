/-
  Layer 17, package lead: a derivation. Conditions: none.
-/
import Derived.Test.YtiiogleijmcccaaZ5
namespace Go.Av
open Go.Proofs
set_option maxRecDepth 100000
set_option linter.unusedSimpArgs false
set_option linter.unusedVariables false

theorem run_err {g : Gr} {w : List Int} {rows : List (Nat → Nat)} {kind : Int} : ∀ (k : Nat) (T : List Lt) (a : Nat) (out : List Int), (runL g w rows kind k T a out).1 ≠ 0 → (runL g w rows kind k T a out).2 = []
  | 0, _, _, _, _ => rfl
  | _ + 1, [], _, _, h => absurd rfl h
  | k + 1, x :: T, a, out, h => by
    cases hx : x.1.non
    · rw [run_term hx] at h ⊢
      exact run_err k _ _ _ h
    · by_cases ho : out.length = 2000
      · rw [run_big hx ho]
      · cases ht : tryL g w rows kind T a (candL g w kind a x.1.n) with
        | none => rw [run_none hx ho ht]
        | some cL =>
          obtain ⟨c, L⟩ := cL
          rw [run_some hx ho ht] at h ⊢
          exact run_err k _ _ _ h

def goodS (g : Gr) (w : List Int) (kind : Int) (rows : List (Nat → Nat)) : Nat := aheadN w rows kind ⟨true, g.start⟩ (2 ^ w.length)

/-- A derivation, by a word's rows. -/
def byL (g : Gr) (w : List Int) (kind : Int) (rows : List (Nat → Nat)) : Int × List Int :=
  if (goodS g w kind rows).testBit 0 = true then runL g w rows kind 18002 [(⟨true, g.start⟩, goodS g w kind rows)] 0 [] else (11, [])

theorem by_err {g : Gr} {w : List Int} {kind : Int} {rows : List (Nat → Nat)} (h : (byL g w kind rows).1 ≠ 0) : (byL g w kind rows).2 = [] := by
  unfold byL at h ⊢
  split
  · rename_i hb
    rw [if_pos hb] at h
    exact run_err _ _ _ _ h
  · rfl

theorem LM.frzT {bR : Nat} {g : Gr} {w : List Int} {rows : List (Nat → Nat)} {kind : Int} {h : Heap} {n : Nat} {T : List Lt} {a : Nat} {out : List Int} {tv ov : AV} (m : LM bR g w rows kind h n T a out tv ov) :
    rf true 6 h tv = some (.ro (T.reverse.map eTd)) := by
  obtain ⟨m1, m2, m3, m4, m5⟩ := m
  rcases m3 with ⟨rfl, rfl⟩ | ⟨b, es, rfl, k2, k3, k4, k5, k6⟩
  · rfl
  · have he : rfe true 5 h (T.reverse.map eTd) = some (T.reverse.map eTd) := rfe_map fun x _ => by simp [rfs, rf, eTd]
    unfold rf
    simp only [k4, List.drop_zero, k6, he, Nat.zero_add, if_pos k5]

theorem frz1 {h : Heap} {a a' : AV} (e : rf true 6 h a = some a') : rfs true 7 h [a] = some [a'] := by
  simp only [rfs, List.mapM_cons, e]
  rfl

theorem frz2 {h : Heap} {a a' b b' : AV} (e : rf true 6 h a = some a') (f : rf true 6 h b = some b') : rfs true 7 h [a, b] = some [a', b'] := by
  simp only [rfs, List.mapM_cons, e, f]
  rfl

theorem frz3 {h : Heap} {a a' b b' c c' : AV} (e : rf true 6 h a = some a') (f : rf true 6 h b = some b') (k : rf true 6 h c = some c') : rfs true 7 h [a, b, c] = some [a', b', c'] := by
  simp only [rfs, List.mapM_cons, e, f, k]
  rfl

set_option maxHeartbeats 16000000 in
theorem f84h (h00 : Heap) (n00 : Nat) (g : Gr) (hg : g.Small) (hG : GoodG g) (w : List Int) (kind : Int) (rows : List (Nat → Nat)) (hw : rows.length = w.length + 1) (hr : rows.length ≤ 30) (hrw : RwIn rows) :
    FH pg Tq 84 [.agg (eGr g), .ro (w.map eIn), .int .i64 kind, .ro (rows.map eRw)] h00 n00 fun r h n => ∃ v, r = .tup [v, .int .i64 (byL g w kind rows).1] ∧ SlL eIn 1 h n00 n v (byL g w kind rows).2 := by
  obtain ⟨⟨hn1, hn2⟩, _, ⟨hs1, hs2⟩, hp60, h5⟩ := right_in hG.right
  refine FH.of (N := 49) (rs := #[.tmp 8, .tmp 9]) Try.func84 rfl rfl (of_decide_eq_true rfl) rfl (by decide) ?_
  refine W.rseq (k := 3) rfl fun K hK => ?_
  simp only [go_sem]
  refine hK _ _ _ ?_
  clear hK K
  refine W.rseq (k := 7) rfl fun K hK => ?_
  simp only [go_sem]
  refine hK _ _ _ ?_
  clear hK K
  refine W.rseq (k := 5) rfl fun K hK => ?_
  simp only [go_sem]
  refine hK _ _ _ ?_
  clear hK K
  have M0 : ∀ (h' : Heap), h' (n00 + 8) = some (.cells [eLd g w rows kind .nils 0 .nils]) → LM (n00 + 8) g w rows kind h' (n00 + 9) [] 0 [] .nils .nils := fun h' q2 => ⟨by omega, q2, .inl ⟨rfl, rfl⟩, .inl ⟨rfl, rfl⟩, fun b k b' k' e => by cases e⟩
  obtain ⟨G, hGs⟩ : ∃ G, G = goodS g w kind rows := ⟨_, rfl⟩
  have hGl : G < 2 ^ 32 := by rw [hGs]; exact aheadN_lt hr
  refine W.dseq (k := 12) rfl fun K hK => ?_
  simp only [go_sem]
  refine VCall.frzq (as' := [.rp (eLd g w rows kind (.ro []) 0 (.ro [])) 0]) 7 (frz1 (M0 _ (by simp only [go_sem]; rfl)).frz) (f114 g w rows kind _ 0 _ (by omega)) ?_
  simp only [go_sem]
  refine VCall.frzq (as' := [.rp (eLd g w rows kind (.ro []) 0 (.ro [])) 0, .agg (eSy ⟨true, g.start⟩), .int .u32 (2 ^ w.length : Nat)]) 7 (frz3 (M0 _ (by simp only [go_sem]; rfl)).frz rfl rfl) (f113 g w rows kind _ 0 _ ⟨true, g.start⟩ (2 ^ w.length) hw hr hrw (Nat.pow_lt_pow_right (by decide) (by omega)) fun _ => ⟨hs1, (by omega : g.start < 24)⟩) ?_
  simp only [go_sem]
  refine hK _ _ _ _ (by kernel_rfl) ?_
  clear hK K
  rw [show aheadN w rows kind ⟨true, g.start⟩ (2 ^ w.length) = G from hGs.symm]
  have M1 : ∀ (h' : Heap) (n' : Nat), n00 + 23 < n' → h' (n00 + 8) = some (.cells [eLd g w rows kind (.sl (n00 + 23) 0 1 3) 0 .nils]) → h' (n00 + 23) = some (.cells [eTd (⟨true, g.start⟩, G)]) → LM (n00 + 8) g w rows kind h' n' [(⟨true, g.start⟩, G)] 0 [] (.sl (n00 + 23) 0 1 3) .nils := fun h' n' q1 q2 q3 => ⟨by omega, q2, .inr ⟨n00 + 23, _, rfl, by omega, q1, q3, Nat.le_refl _, rfl⟩, .inl ⟨rfl, rfl⟩, fun _ _ _ _ _ e => by cases e⟩
  refine W.seq ?_
  refine W.rseq (k := 7) rfl fun K hK => ?_
  simp only [go_sem]
  refine VCall.frzq (as' := [.rp (eLd g w rows kind (.ro ([((⟨true, g.start⟩, G) : Lt)].reverse.map eTd)) 0 (.ro [])) 0, .ro ([((⟨true, g.start⟩, G) : Lt)].reverse.map eTd)]) 7 (frz2 (M1 _ (n00 + 24) (by omega) (by simp only [go_sem]; rfl) (by simp only [go_sem]; rfl)).frz (M1 _ (n00 + 24) (by omega) (by simp only [go_sem]; rfl) (by simp only [go_sem]; rfl)).frzT) (f115 g w rows kind _ [(⟨true, g.start⟩, G)] 0 _ (by omega) (by show 1 < 2 ^ 40; decide) (by omega) hGl) ?_
  simp only [go_sem]
  refine hK _ _ _ ?_
  first | clear hK K | clear hK | skip
  have hby : byL g w kind rows = if G.testBit 0 = true then runL g w rows kind 18002 [(⟨true, g.start⟩, G)] 0 [] else (11, []) := by rw [byL, ← hGs]
  show W _ _ _ _ _ _ _ _
  cases hb : (lastG w [((⟨true, g.start⟩, G) : Lt)]).testBit 0
  · have hb' : G.testBit 0 = false := hb
    refine W.condT (by simp only [go_sem, hb]) ?_
    refine W.rseq (k := 2) rfl fun K hK => ?_
    simp only [go_sem]
    refine hK _ _ _ ?_
    clear hK K
    refine W.ret ?_
    simp only [go_sem]
    rw [hby, hb', if_neg (by decide)]
    exact ⟨.nils, rfl, .inl ⟨rfl, rfl⟩⟩
  · have hb' : G.testBit 0 = true := hb
    refine W.condF (by simp only [go_sem, hb]) ?_
    refine W.skip ?_
    simp only [go_sem]
    rw [hb', if_pos rfl] at hby
    obtain ⟨R, hR⟩ : ∃ R, R = runL g w rows kind 18002 [(⟨true, g.start⟩, G)] 0 [] := ⟨_, rfl⟩
    refine W.seq ?_
    refine W.rseq (k := 3) rfl fun K hK => ?_
    simp only [go_sem]
    refine VCall.heap (f116 (n00 + 8) g w rows kind _ _ [(⟨true, g.start⟩, G)] 0 [] _ _ (M1 _ _ (by omega) (by simp only [go_sem]; rfl) (by simp only [go_sem]; rfl)) hg hG hw hr hrw (fun y hy => by rw [List.mem_singleton.1 hy]; exact ⟨hGl, fun _ => ⟨hs1, (by omega : g.start < 24)⟩⟩) (fun y hy => by rw [List.mem_singleton.1 hy]; exact fun _ => ⟨hs1, hs2⟩) (Nat.zero_le _) (Nat.zero_le _) (by show 1 + 8 * 2000 ≤ 2 ^ 20; decide) 18002 (by show 2000 * 9 + 1 < 18002; decide)) fun r1 h1 n1 ⟨c1, c2⟩ => ?_
    rw [← hR] at c1 c2 hby
    subst c1
    simp only [go_sem]
    refine hK _ _ _ ?_
    first | clear hK K | clear hK | skip
    by_cases he : R.1 = 0
    · obtain ⟨T', a', tv', ov', m1, m2, m3, m4, m5⟩ := c2 he
      refine W.rseq (k := 2) rfl fun K hK => ?_
      simp only [go_sem, decide_eq_true he]
      refine hK _ _ _ ?_
      clear hK K
      refine W.condF (by simp only [go_sem]) ?_
      refine W.skip ?_
      simp only [go_sem]
      refine W.rseq (k := 6) rfl fun K hK => ?_
      simp only [go_sem, m2, eLd]
      refine hK _ _ _ ?_
      clear hK K
      refine W.ret ?_
      simp only [go_sem]
      rw [hby, he]
      exact ⟨ov', rfl, m4.next rfl (fun x _ _ => rfl) (by omega) (by omega)⟩
    · refine W.rseq (k := 2) rfl fun K hK => ?_
      simp only [go_sem, decide_eq_false he]
      refine hK _ _ _ ?_
      clear hK K
      refine W.condT (by simp only [go_sem]) ?_
      refine W.rseq (k := 3) rfl fun K hK => ?_
      simp only [go_sem]
      refine hK _ _ _ ?_
      clear hK K
      refine W.ret ?_
      simp only [go_sem]
      have h2 : R.2 = [] := by
        rw [← hby]
        exact by_err (by rw [hby]; exact he)
      rw [hby, h2]
      exact ⟨.nils, rfl, .inl ⟨rfl, rfl⟩⟩

theorem f84 (g : Gr) (hg : g.Small) (hG : GoodG g) (w : List Int) (kind : Int) (rows : List (Nat → Nat)) (hw : rows.length = w.length + 1) (hr : rows.length ≤ 30) (hrw : RwIn rows) :
    PF pg Tq 84 [.agg (eGr g), .ro (w.map eIn), .int .i64 kind, .ro (rows.map eRw)] (.tup [.ro ((byL g w kind rows).2.map eIn), .int .i64 (byL g w kind rows).1]) := by
  have fin := f84h h0 0 g hg hG w kind rows hw hr hrw
  obtain ⟨r, h', n', hb, v, rfl, ho⟩ := fin
  refine ⟨_, h', n', hb, 7, fun fr => ?_⟩
  have h1 : rf fr 5 h' v = some (.ro ((byL g w kind rows).2.map eIn)) := ho.frz (d := 3) fun x _ => by simp [rfs, rf, eIn]
  unfold rf
  simp only [rfs, List.mapM_cons, h1]
  rfl

end Go.Av

