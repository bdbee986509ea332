/-
  Layer 17, package lead: a production chosen. Conditions: none.
-/
import Derived.Test.YtiiogleijmcccaaZ3
namespace Go.Av
open Go.Proofs
set_option maxRecDepth 100000
set_option linter.unusedSimpArgs false
set_option linter.unusedVariables false

/-- Productions that are tried, in this order. -/
def candL (g : Gr) (w : List Int) (kind : Int) (a : Nat) (x : Int) : List Int :=
  if kind = 2 ∧ a = w.length then [((ranksL g true).getD x.toNat (0, 0)).2] else if kind = 1 then (prodsL g x).reverse else prodsL g x

def rightOf (g : Gr) (c : Int) : List Sy := (g.prods[c.toNat]?.map (·.right)).getD []

def tryL (g : Gr) (w : List Int) (rows : List (Nat → Nat)) (kind : Int) (T : List Lt) (a : Nat) : List Int → Option (Int × List Lt)
  | [] => none
  | c :: cs => let L := layL w rows kind T (rightOf g c); if (lastG w L).testBit a = true then some (c, L) else tryL g w rows kind T a cs

theorem try_cons {g : Gr} {w : List Int} {rows : List (Nat → Nat)} {kind : Int} {T : List Lt} {a : Nat} {c : Int} {cs : List Int} : tryL g w rows kind T a (c :: cs) = if (lastG w (layL w rows kind T (rightOf g c))).testBit a = true then some (c, layL w rows kind T (rightOf g c)) else tryL g w rows kind T a cs := rfl

/-- What choosing leaves. -/
def ChR (bR : Nat) (g : Gr) (w : List Int) (rows : List (Nat → Nat)) (kind : Int) (h : Heap) (n a : Nat) (out : List Int) (res : Option (Int × List Lt)) (r : AV) (h' : Heap) (n' : Nat) : Prop :=
  match res with
  | none => r = .bool false
  | some (c, L) => r = .bool true ∧ ∃ tv' ov', LM bR g w rows kind h' n' L a (out ++ [c]) tv' ov'

theorem OwnFc.pf' {g : Gr} (hg : g.Small) : PF pg Tq 32 [.agg (eGr g)] (.ro ((ranksL g true).map eFc)) := OwnFc.pf (f32 g hg)

set_option maxHeartbeats 16000000 in
theorem f136 (bR : Nat) (g : Gr) (w : List Int) (rows : List (Nat → Nat)) (kind : Int) (h : Heap) (n : Nat) (T : List Lt) (a : Nat) (out : List Int) (tv ov : AV) (m : LM bR g w rows kind h n T a out tv ov) (hsl : tv ≠ .nils) (ξ : Nat)
    (hg : g.Small) (hp60 : g.prods.length < 2 ^ 40) (hw : rows.length = w.length + 1) (hr : rows.length ≤ 30) (hrw : RwIn rows) (hT : T.length < 2 ^ 30) (hgd : GdT T) (ha : a ≤ w.length) (ho : out.length < 2 ^ 30)
    (hps : ∀ p ∈ g.prods, p.right.length < 2 ^ 20 ∧ ∀ s ∈ p.right, s.non = true → 0 ≤ s.n ∧ s.n < 24) (hne : prodsL g ξ ≠ []) (hrk : ξ < (ranksL g true).length)
    (hcd : ∀ c ∈ candL g w kind a ξ, ∃ i : Nat, c = i ∧ i < g.prods.length) :
    FH pg Tq 136 [.ptr bR 0 0, .int .i64 (ξ : Nat)] h n fun r h' n' => ChR bR g w rows kind h n a out (tryL g w rows kind T a (candL g w kind a ξ)) r h' n' := by
  have m' := m
  obtain ⟨m1, m2, m3, m4, m5⟩ := m'
  have zR : ∀ j, ¬ bR = n + j := fun j => by omega
  have zR' : ¬ bR = n := by omega
  refine FH.of (N := 83) (rs := #[.tmp 4]) Try.func136 rfl rfl (of_decide_eq_true rfl) rfl (by decide) ?_
  refine W.rseq (k := 1) rfl fun K hK => ?_
  simp only [go_sem]
  refine hK _ _ _ ?_
  clear hK K
  refine W.rseq (k := 7) rfl fun K hK => ?_
  simp only [go_sem, m2, eLd, zR, zR']
  refine VCall.own (sz := 1) (es := (prodsL g ξ).map eIn) 6 (f146' g ξ hp60 hne) rfl ?_
  simp only [go_sem]
  refine hK _ _ _ ?_
  first | clear hK K | clear hK | skip
  obtain ⟨C0, hC0⟩ : ∃ C0, C0 = prodsL g ξ := ⟨_, rfl⟩
  rw [← hC0]
  have hC0l : C0.length < 2 ^ 40 := by rw [hC0]; exact Nat.lt_of_le_of_lt (prodsJ_len _) hp60
  have hrt : ∀ h' : Heap, (∀ y, y < n → h' y = h y) → h' bR = some (.cells [eLd g w rows kind tv a ov]) := fun h' q => (q bR m1).trans m2
  refine W.seqk fun K hK => ?_
  have nx1 : ∀ (t' : Fr) (h' : Heap) (n' : Nat) (C : List Int) (bc : Nat), n ≤ bc → bc < n' → h' bc = some (.cells (C.map eIn)) → (∀ y, y < n → h' y = h y) → C = (if kind = 1 then C0.reverse else C0) → t' 0 = .ptr bR 0 0 → t' 1 = .int .i64 (ξ : Nat) → t' 5 = .sl bc 0 C.length 1 → K t' h' n' := by
    intro t' h' n' C bc e1 e2 e3 e4 e5 e6 e7 e8
    refine hK _ _ _ ?_
    clear hK K
    have hrt' := hrt h' e4
    have zR2 : ∀ j, ¬ bR = n' + j := fun j => by omega
    have lR2 : ∀ j, (bR < n' + j) = True := fun j => eq_true (by omega)
    have lR3 : (bR < n') = True := eq_true (by omega)
    refine W.seqk fun K hK => ?_
    have nx2 : ∀ (t' : Fr) (h' : Heap) (n' : Nat) (C : List Int) (bc : Nat), n ≤ bc → bc < n' → h' bc = some (.cells (C.map eIn)) → (∀ y, y < n → h' y = h y) → C = candL g w kind a ξ → C.length < 2 ^ 40 → t' 0 = .ptr bR 0 0 → t' 5 = .sl bc 0 C.length 1 → K t' h' n' := by
      intro t' h' n' C bc e1 e2 e3 e4 e5 e5l e6 e7
      refine hK _ _ _ ?_
      rw [← e5]
      rw [← e5] at hcd
      clear hK K e5
      refine W.seqk fun K hK => ?_
      refine W.rseq (k := 3) rfl fun K hK => ?_
      simp only [go_sem, e7]
      refine hK _ _ _ ?_
      clear hK K
      have nx0 : ∀ (t' : Fr) (h' : Heap) (n' : Nat), tryL g w rows kind T a C = none → K t' h' n' := by
        intro t' h' n' q1
        refine hK _ _ _ ?_
        clear hK K
        refine W.rseq (k := 1) rfl fun K hK => ?_
        simp only [go_sem]
        refine hK _ _ _ ?_
        clear hK K
        refine W.ret ?_
        simp only [go_sem]
        rw [q1]
        rfl
      clear hK
      refine W.block (W.while (fun mm t h2 n2 => ∃ j : Nat, mm = C.length - j ∧ j ≤ C.length ∧ bc < n2 ∧ h2 bc = some (.cells (C.map eIn)) ∧ (∀ y, y < n → h2 y = h y) ∧ tryL g w rows kind T a (C.drop j) = tryL g w rows kind T a C ∧ (t 0 = .ptr bR 0 0 ∧ t 49 = .sl bc 0 C.length 1 ∧ t 50 = .int .i64 C.length) ∧ t 51 = .int .i64 j) C.length
        ⟨0, rfl, by omega, by omega, e3, e4, by rw [List.drop_zero], ⟨e6, rfl, rfl⟩, rfl⟩ fun mm t h2 n2 ⟨j, i1, i2, i3, i4, i5, i6, i7, i8⟩ => ?_)
      have i7' := i7
      obtain ⟨a0, a49, a50⟩ := i7'
      refine W.rseq (k := 1) rfl fun K hK => ?_
      simp only [go_sem, a50, i8]
      refine hK _ _ _ ?_
      clear hK K
      refine W.seq ?_
      refine W.cond rfl (fun hc => ?_) fun hc => ?_
      · refine W.skip ?_
        simp only [go_sem]
        have hj : j < C.length := by simp at hc; omega
        obtain ⟨c, hcj⟩ := get_some hj
        obtain ⟨ci, rfl, hci⟩ := hcd c (List.mem_of_getElem? hcj)
        obtain ⟨p, hpc⟩ := get_some hci
        have hpm := hps p (List.mem_of_getElem? hpc)
        have hro : rightOf g (ci : Int) = p.right := by rw [rightOf, Int.toNat_natCast, hpc]; rfl
        have hdr : C.drop j = (ci : Int) :: C.drop (j + 1) := by
          rw [List.drop_eq_getElem_cons hj]
          congr 1
          exact (List.getElem_eq_iff _).2 hcj
        have hmj : (C.map eIn)[j]? = some [.int .i64 (ci : Int)] := by rw [List.getElem?_map, hcj]; rfl
        rw [hdr, try_cons, hro] at i6
        obtain ⟨L, hL⟩ : ∃ L, L = layL w rows kind T p.right := ⟨_, rfl⟩
        have hGL : GdT L := by rw [hL]; exact hgd.lay hr _ hpm.2
        have hLl : L.length < 2 ^ 31 := by rw [hL, lay_len]; omega
        rw [← hL] at i6
        have hrt2 := hrt h2 i5
        refine W.seqk fun K hK => ?_
        have nx : ∀ (t' : Fr) (h' : Heap) (n' : Nat), bc < n' → h' bc = some (.cells (C.map eIn)) → (∀ y, y < n → h' y = h y) → tryL g w rows kind T a (C.drop (j + 1)) = tryL g w rows kind T a C → (t' 0 = .ptr bR 0 0 ∧ t' 49 = .sl bc 0 C.length 1 ∧ t' 50 = .int .i64 C.length) → t' 51 = .int .i64 j → K t' h' n' := by
          intro t' h' n' q1 q2 q3 q4 q5 q6
          refine hK _ _ _ ?_
          clear hK K
          refine W.region (k := 2) rfl ?_
          simp only [go_sem, q6]
          refine ⟨C.length - (j + 1), by omega, j + 1, rfl, by omega, by omega, q2, q3, q4, q5, ?_⟩
          rw [wrap64 (by omega) (by omega)]; rfl
        clear hK
        refine W.block ?_
        refine W.rseq (k := 3) rfl fun K hK => ?_
        simp only [go_sem, a49, i8, i4, hmj, show (j : Int) < (C.length : Int) by omega]
        refine hK _ _ _ ?_
        clear hK K
        refine W.rseq (k := 11) rfl fun K hK => ?_
        simp only [go_sem, a0, hrt2, eLd, hpc]
        refine VCall.heap (f148 bR g w rows kind _ _ T a out tv ov (m.next i5 (by omega)) hsl p hw hr hrw hT hgd hpm.1 hpm.2) fun r1 h3 n3 ⟨c1, c2, c3⟩ => ?_
        rw [← hL] at c3
        simp only [go_sem]
        refine hK _ _ _ ?_
        first | clear hK K | clear hK | skip
        have h3s : ∀ y, y < n → h3 y = h y := fun y hy => by rw [c2 y (by omega)]; exact i5 y hy
        have h3c : h3 bc = some (.cells (C.map eIn)) := by rw [c2 bc (by omega)]; exact i4
        have M3 := m.next h3s (show n ≤ n3 by omega)
        refine W.rseq (k := 3) rfl fun K hK => ?_
        simp only [go_sem, a0]
        refine VCall.frzq (as' := [.rp (eLd g w rows kind (.ro (T.reverse.map eTd)) a (.ro (out.map eIn))) 0, .ro (L.reverse.map eTd)]) 7 ?_ (f115 g w rows kind _ L a _ (by omega) (by omega) (by omega) (hGL.last (by omega))) ?_
        · have hr1 : rf true 6 h3 r1 = some (.ro (L.reverse.map eTd)) := c3.frz (d := 4) fun x _ => by simp [rfs, rf, eTd]
          simp only [rfs, List.mapM_cons, M3.frz, hr1]
          rfl
        simp only [go_sem]
        refine hK _ _ _ ?_
        first | clear hK K | clear hK | skip
        cases hb : (lastG w L).testBit a
        · refine W.condF (by simp only [go_sem, hb]) ?_
          refine W.skip ?_
          simp only [go_sem]
          rw [hb, if_neg (by decide)] at i6
          exact nx _ _ _ (by omega) h3c h3s i6 i7 i8
        · refine W.condT (by simp only [go_sem, hb]) ?_
          rw [hb, if_pos rfl] at i6
          rw [← i6]
          have hrt3 := hrt h3 h3s
          refine W.seqk fun K hK => ?_
          have fin : ∀ (t' : Fr) (h' : Heap) (n' : Nat) (tn : AV), n3 ≤ n' → h' bR = some (.cells [eLd g w rows kind tn a ov]) → (∀ y, bR < y → y < n → h' y = h y) → ((L = [] ∧ tn = .nils) ∨ ∃ b, tn = .sl b 0 L.length 3 ∧ n ≤ b ∧ b < n' ∧ h' b = some (.cells (L.reverse.map eTd))) → t' 0 = .ptr bR 0 0 → t' 7 = .int .i64 (ci : Int) → K t' h' n' := by
            intro t' h' n' tn q1 q2 q3 q4 q5 q6
            refine hK _ _ _ ?_
            clear hK K
            have zR : ∀ j, ¬ bR = n' + j := fun j => by omega
            have lR : ∀ j, (bR < n' + j) = True := fun j => eq_true (by omega)
            have lR' : (bR < n') = True := eq_true (by omega)
            refine W.rseq (k := 11) rfl fun K hK => ?_
            rcases m4 with ⟨w0, rfl⟩ | ⟨b3, rfl, w1, w2, w3⟩
            · simp only [go_sem, q5, q6, q2, eLd, zR, lR, lR', show (n' ≤ n' + 6) = True from eq_true (by omega), if_true, Nat.one_mul]
              refine hK _ _ _ ?_
              first | clear hK K | clear hK | skip
              refine W.rseq (k := 1) rfl fun K hK => ?_
              simp only [go_sem]
              refine hK _ _ _ ?_
              clear hK K
              refine W.ret ?_
              simp only [go_sem]
              subst w0
              refine ⟨rfl, tn, .sl (n' + 7) 0 1 1, by omega, by simp only [go_sem]; rfl, ?_, .inr ⟨n' + 7, by rfl, by omega, by omega, by simp only [go_sem, show ¬ n' + 7 = bR by omega]; rfl⟩, fun b k b' k' p1 p2 => ?_⟩
              · rcases q4 with q4 | ⟨b, p1, p2, p3, p4⟩
                · exact .inl q4
                · exact .inr ⟨b, _, p1, by omega, by omega, by simp only [go_sem, show ∀ j, ¬ b = n' + j from fun j => by omega, show ¬ b = bR by omega]; exact p4, by simp, by rw [List.take_of_length_le (by simp)]⟩
              · injection p2 with p3
                rcases q4 with ⟨_, rfl⟩ | ⟨b9, rfl, p4, p5, p6⟩
                · cases p1
                · injection p1 with p7
                  omega
            · have hb3 : h' b3 = some (.cells (out.map eIn)) := (q3 b3 (by omega) w2).trans w3
              have z3 : ∀ j, ¬ b3 = n' + j := fun j => by omega
              have tkL : (out.map eIn).take out.length = out.map eIn := List.take_of_length_le (by simp)
              simp only [go_sem, q5, q6, q2, eLd, zR, lR, lR', hb3, z3, tkL, List.length_map, and_false, if_false, if_true, show ¬ bR = b3 by omega, show (out.length + 1) * 8 ≤ 140737488355328 by omega, show (n' ≤ b3) = False from eq_false (by omega)]
              refine hK _ _ _ ?_
              first | clear hK K | clear hK | skip
              refine W.rseq (k := 1) rfl fun K hK => ?_
              simp only [go_sem]
              refine hK _ _ _ ?_
              clear hK K
              refine W.ret ?_
              simp only [go_sem]
              refine ⟨rfl, tn, .sl (n' + 7) 0 (out.length + 1) 1, by omega, by simp only [go_sem]; rfl, ?_, .inr ⟨n' + 7, by rw [List.length_append]; rfl, by omega, by omega, by simp only [go_sem, show ¬ n' + 7 = bR by omega]; rw [List.map_append]; rfl⟩, fun b k b' k' p1 p2 => ?_⟩
              · rcases q4 with q4 | ⟨b, p1, p2, p3, p4⟩
                · exact .inl q4
                · exact .inr ⟨b, _, p1, by omega, by omega, by simp only [go_sem, show ∀ j, ¬ b = n' + j from fun j => by omega, show ¬ b = bR by omega, show ¬ b = b3 by omega]; exact p4, by simp, by rw [List.take_of_length_le (by simp)]⟩
              · injection p2 with p3
                rcases q4 with ⟨_, rfl⟩ | ⟨b9, rfl, p4, p5, p6⟩
                · cases p1
                · injection p1 with p7
                  omega
          clear hK
          refine W.region (k := 5) rfl ?_
          rcases c3 with ⟨w0, rfl⟩ | ⟨b3, rfl, w1, w2, w3⟩
          · simp only [go_sem, a0, hrt3, eLd]
            refine fin _ _ _ .nils (by omega) (by simp only [go_sem]; rfl) (fun y q1 q2 => by simp only [go_sem, show ¬ y = bR by omega]; exact h3s y q2) (.inl ⟨List.reverse_eq_nil_iff.1 w0, rfl⟩) a0 rfl
          · simp only [go_sem, a0, hrt3, eLd]
            refine fin _ _ _ (.sl b3 0 L.length 3) (by omega) (by simp only [go_sem, List.length_reverse]; rfl) (fun y q1 q2 => by simp only [go_sem, show ¬ y = bR by omega]; exact h3s y q2) (.inr ⟨b3, rfl, by omega, by omega, by simp only [go_sem, show ¬ b3 = bR by omega]; exact w3⟩) a0 rfl
      · refine W.exit ?_
        simp only [go_sem]
        have hj : j = C.length := by simp at hc; omega
        rw [hj, List.drop_length] at i6
        exact nx0 _ _ _ i6.symm
    clear hK
    by_cases hk2 : kind = 2
    · by_cases haw : a = w.length
      · refine W.dseq (k := 17) rfl fun K hK => ?_
        simp only [go_sem, e6, hrt', eLd, zR2, lR2, lR3, decide_eq_true hk2, List.length_map, decide_eq_true (show (a : Int) = (w.length : Int) by omega)]
        refine hK _ _ _ _ (by kernel_rfl) ?_
        clear hK K
        refine W.condT (by simp only [go_sem]) ?_
        obtain ⟨fc, hfc⟩ := get_some hrk
        refine W.region (k := 11) rfl ?_
        simp only [go_sem, e6, hrt', eLd, zR2]
        refine VCall.frz 6 (OwnFc.pf' hg) rfl ?_
        simp only [go_sem, e7, hfc, eFc]
        refine nx2 _ _ _ [fc.2] (n' + 17 + 9) (by omega) (by omega) (by simp only [go_sem]; rfl) (fun y hy => by simp only [go_sem, show ∀ j, ¬ y = n' + j from fun j => by omega]; exact e4 y hy) ?_ (by simp) e6 rfl
        rw [candL, if_pos ⟨hk2, haw⟩, Int.toNat_natCast, List.getD_eq_getElem?_getD, hfc]; rfl
      · refine W.dseq (k := 17) rfl fun K hK => ?_
        simp only [go_sem, e6, hrt', eLd, zR2, lR2, lR3, decide_eq_true hk2, List.length_map, decide_eq_false (show ¬ (a : Int) = (w.length : Int) by omega)]
        refine hK _ _ _ _ (by kernel_rfl) ?_
        clear hK K
        refine W.condF (by simp only [go_sem]) ?_
        refine W.skip ?_
        simp only [go_sem]
        refine nx2 _ _ _ C bc e1 (by omega) e3 e4 ?_ ?_ e6 e8
        · rw [candL, if_neg (fun q => haw q.2), e5, hC0]
        · rw [e5]; split
          · rw [List.length_reverse]; exact hC0l
          · exact hC0l
    · refine W.dseq (k := 17) rfl fun K hK => ?_
      simp only [go_sem, e6, hrt', eLd, zR2, lR2, lR3, decide_eq_false hk2]
      refine hK _ _ _ _ (by kernel_rfl) ?_
      clear hK K
      refine W.condF (by simp only [go_sem]) ?_
      refine W.skip ?_
      simp only [go_sem]
      refine nx2 _ _ _ C bc e1 (by omega) e3 e4 ?_ ?_ e6 e8
      · rw [candL, if_neg (fun q => hk2 q.1), e5, hC0]
      · rw [e5]; split
        · rw [List.length_reverse]; exact hC0l
        · exact hC0l
  clear hK
  have z6 : ¬ bR = n + 6 := by omega
  have hsm : ∀ (o : Option AO) (y : Nat), y < n → upd h (n + 6) o y = h y := fun o y hy => by simp only [go_sem, show ¬ y = n + 6 by omega]
  by_cases hk1 : kind = 1
  · refine W.rseq (k := 5) rfl fun K hK => ?_
    simp only [go_sem, m2, eLd, zR, zR', z6, decide_eq_true hk1]
    refine hK _ _ _ ?_
    clear hK K
    refine W.condT (by simp only [go_sem]) ?_
    refine W.region (k := 2) rfl ?_
    simp only [go_sem, List.length_map]
    refine VCall.heap (f147 C0 _ _ _ (by omega) (by simp only [go_sem]) hC0l) fun r1 h1 n1 ⟨c1, c2, c3⟩ => ?_
    simp only [go_sem]
    refine nx1 _ _ _ C0.reverse (n + 6) (by omega) (by omega) c2 (fun y hy => by rw [c3 y (by omega) (by omega)]; exact hsm _ y hy) (by rw [if_pos hk1]) rfl rfl (by rw [List.length_reverse]; rfl)
  · refine W.rseq (k := 5) rfl fun K hK => ?_
    simp only [go_sem, m2, eLd, zR, zR', z6, decide_eq_false hk1]
    refine hK _ _ _ ?_
    clear hK K
    refine W.condF (by simp only [go_sem]) ?_
    refine W.skip ?_
    simp only [go_sem]
    refine nx1 _ _ _ C0 (n + 6) (by omega) (by omega) (by simp only [go_sem]) (fun y hy => hsm _ y hy) (by rw [if_neg hk1]) rfl rfl (by simp only [go_sem, List.length_map])

end Go.Av

