/-
  Layer 17, the document's answer: a derivation, walked. Conditions: none.
-/
import Derived.Test.YtiiogleijmcccaaZI
import Derived.Test.YtiiogleijmcccaaY3
namespace Go.Av
open Go.Proofs
set_option maxRecDepth 100000
set_option linter.unusedSimpArgs false
set_option linter.unusedVariables false

theorem reach_fit {g : Gr} {w : List Int} {kind : Int} {l : List Sy} {fr : Nat} {F : Nat → Bool} {o : Bool} (hF : F w.length = true ↔ Der g w l fr w.length) (ho : o = true ↔ OvT g w l fr) : (if kind = 2 then o else F w.length) = true ↔ Ok g w (kind = 2) l fr := by
  by_cases hk : kind = 2
  · rw [if_pos hk, ho, ovT_ok, eq_true hk]
  · rw [if_neg hk, hF, eq_false hk]
    exact ⟨fun h => der_ok h, fun h => h.der fun q => q⟩

theorem frzA {h : Heap} {a a' : AV} {x z u : List (List AV)} {k1 k2 : IntKind} {y v : Int} (e : rf true 6 h a = some a') : rfs true 7 h [a, .ro x, .int k1 y, .ro z, .ro u, .int k2 v] = some [a', .ro x, .int k1 y, .ro z, .ro u, .int k2 v] := by
  simp only [rfs, List.mapM_cons, e]
  rfl

theorem wild_ov {g : Gr} (hr : right g = true) {w : List Int} {M : Nat} (hM : (M : Int) = g.nons) (n a : Nat) (hn : n < M) : spanF (wildG g) w (M + n) a w.length = true ↔ Ovr g w (n : Int) a := by
  rw [spanF_iff, show ((M + n : Nat) : Int) = g.nons + (n : Int) by omega, wild_iff hr (by omega)]

theorem W.post {N : Nat} {c : Code} {t : Fr} {h : Heap} {n : Nat} {Q : AEx → Fr → Heap → Nat → Prop} (K : Fr → Heap → Nat → Prop) (hK : ∀ t h n, K t h n → Q .normal t h n) (hw : W pg Tq N c t h n fun e t h n => e = .normal ∧ K t h n) : W pg Tq N c t h n Q := by
  obtain ⟨e, t', h', n', hb, rfl, hk⟩ := hw
  exact ⟨_, _, _, _, hb, hK _ _ _ hk⟩

set_option maxHeartbeats 16000000 in
theorem f82 (g : Gr) (hg : g.Small) (w : List Int) (hwl : w.length < 2 ^ 29) (kind : Int) (l : List (Nat → Nat)) (hl0 : fitG g w = false → l = []) (hl1 : fitG g w = true → RowsC g w l) :
    PF pg Tq 82 [.agg (eGr g), .ro (w.map eIn), .int .i64 kind] (.tup [.ro ((leadL g w kind l).2.map eIn), .int .i64 (leadL g w kind l).1]) := by
  have h76 := f76 g hg w (by omega)
  have fin : FH pg Tq 82 [.agg (eGr g), .ro (w.map eIn), .int .i64 kind] h0 0 fun r h n => ∃ v, r = .tup [v, .int .i64 (leadL g w kind l).1] ∧ SlL eIn 1 h 0 n v (leadL g w kind l).2 := by
    refine FH.of (N := 193) (rs := #[.tmp 6, .tmp 7]) Try.func82 rfl rfl (of_decide_eq_true rfl) rfl (by decide) ?_
    refine W.rseq (k := 3) rfl fun K hK => ?_
    simp only [go_sem]
    refine hK _ _ _ ?_
    clear hK K
    refine W.seq ?_
    by_cases k0 : kind < 0
    · refine W.rseq (k := 12) rfl fun K hK => ?_
      simp only [go_sem, decide_eq_true k0]
      refine hK _ _ _ ?_
      first | clear hK K | clear hK | skip
      refine W.condT (by simp only [go_sem]) ?_
      refine W.rseq (k := 2) rfl fun K hK => ?_
      simp only [go_sem]
      refine hK _ _ _ ?_
      clear hK K
      refine W.ret ?_
      simp only [go_sem]
      rw [leadL, if_pos (.inr (.inl k0))]
      exact ⟨.nils, rfl, .inl ⟨rfl, rfl⟩⟩
    by_cases k3 : kind > 2
    · refine W.rseq (k := 12) rfl fun K hK => ?_
      simp only [go_sem, decide_eq_false k0, decide_eq_true k3]
      refine hK _ _ _ ?_
      first | clear hK K | clear hK | skip
      refine W.condT (by simp only [go_sem]) ?_
      refine W.rseq (k := 2) rfl fun K hK => ?_
      simp only [go_sem]
      refine hK _ _ _ ?_
      clear hK K
      refine W.ret ?_
      simp only [go_sem]
      rw [leadL, if_pos (.inr (.inr k3))]
      exact ⟨.nils, rfl, .inl ⟨rfl, rfl⟩⟩
    cases hf : fitG g w with
    | false =>
      rw [hf] at h76
      refine W.rseq (k := 12) rfl fun K hK => ?_
      simp only [go_sem, decide_eq_false k0, decide_eq_false k3]
      refine VCall.frz 6 h76 rfl ?_
      simp only [go_sem]
      refine hK _ _ _ ?_
      first | clear hK K | clear hK | skip
      refine W.condT (by simp only [go_sem]) ?_
      refine W.rseq (k := 2) rfl fun K hK => ?_
      simp only [go_sem]
      refine hK _ _ _ ?_
      clear hK K
      refine W.ret ?_
      simp only [go_sem]
      rw [leadL, if_pos (.inl (hl0 hf))]
      exact ⟨.nils, rfl, .inl ⟨rfl, rfl⟩⟩
    | true =>
    rw [hf] at h76
    refine W.rseq (k := 12) rfl fun K hK => ?_
    simp only [go_sem, decide_eq_false k0, decide_eq_false k3]
    refine VCall.frz 6 h76 rfl ?_
    simp only [go_sem]
    refine hK _ _ _ ?_
    first | clear hK K | clear hK | skip
    refine W.condF (by simp only [go_sem]) ?_
    refine W.skip ?_
    simp only [go_sem]
    have hrc := hl1 hf
    have hw := fit_len hf
    have hG := fit_good hf
    have hr := hG.right
    obtain ⟨⟨hn1, hn2⟩, _, ⟨hs1, hs2⟩, hp60, h5⟩ := right_in hr
    rw [show leadL g w kind l = byL g w kind l from by rw [leadL, if_neg (fun q => q.elim (fun e => by have := hrc.1; rw [e] at this; simp at this) fun q => q.elim k0 k3)]]
    obtain ⟨R, hR⟩ : ∃ R, R = byL g w kind l := ⟨_, rfl⟩
    rw [← hR]
    have hgp : g.prods ≠ [] := fun e => by
      obtain ⟨i, _, hi, _⟩ := hG.fact g.start hs1 hs2
      rw [e] at hi
      simp at hi
    obtain ⟨M, hM⟩ : ∃ M, M = g.nons.toNat := ⟨_, rfl⟩
    have hMi : (M : Int) = g.nons := by omega
    obtain ⟨N, hN⟩ : ∃ N, N = w.length + 1 := ⟨_, rfl⟩
    have hM2 : (wildG g).nons.toNat = 2 * M := by show (2 * g.nons).toNat = _; omega
    have h36 := f36 g hg (right_dom hr) w (by omega)
    have h36' := f36 (wildG g) (wild_small hr) (wild_dom hr) w (by omega)
    rw [hM2, ← hN] at h36'
    rw [← hM, ← hN] at h36
    have h31 : PF pg Tq 31 [.agg (eGr g), .bool true] (.ro ((ranksL g true).map eFc)) := by
      have := OwnFc.pf (f31 g hg true)
      rwa [← ranks_same] at this
    have reach : ∀ (l' : List Sy), l'.length < 2 ^ 40 → (∀ s ∈ l', s.non = true → 0 ≤ s.n ∧ s.n < g.nons) → ∀ fr, fr ≤ w.length → ∃ (F : Nat → Bool) (o : Bool), PF pg Tq 111 [.ro (l'.map eSy), .ro (w.map eIn), .int .i64 (fr : Nat), .ro (e3 M N N (spanF g w)), .ro (e3 (2 * M) N N (spanF (wildG g) w)), .int .i64 g.nons] (.tup [.ro (e1 N F), .bool o]) ∧ ((if kind = 2 then o else F w.length) = true ↔ Ok g w (kind = 2) l' fr) := fun l' q1 q2 fr q3 => by
      obtain ⟨F, o, p1, p2, p3⟩ := f111 g w (by omega) M (by omega) l' q1 (fun s hs hn => by have := q2 s hs hn; omega) hMi (wild_ov hr hMi) fr q3 N hN
      rw [hMi] at p1
      exact ⟨F, o, p1, reach_fit p2 p3⟩
    refine W.rseq (k := 4) rfl fun K hK => ?_
    simp only [go_sem]
    refine VCall.frz 6 h36 rfl ?_
    try simp only [go_sem]
    refine hK _ _ _ ?_
    clear hK K
    refine W.rseq (k := 5) rfl fun K hK => ?_
    simp only [go_sem]
    refine VCall.frzr 6 (f83 g hg hr hgp) rfl ?_
    simp only [go_sem]
    refine VCall.frz 6 h36' rfl ?_
    simp only [go_sem]
    refine hK _ _ _ ?_
    first | clear hK K | clear hK | skip
    refine W.rseq (k := 3) rfl fun K hK => ?_
    simp only [go_sem]
    refine VCall.frz 6 h31 rfl ?_
    try simp only [go_sem]
    refine hK _ _ _ ?_
    clear hK K
    refine W.rseq (k := 5) rfl fun K hK => ?_
    simp only [go_sem]
    refine hK _ _ _ ?_
    clear hK K
    obtain ⟨F0, o0, hp0, hfit0⟩ := reach [⟨true, g.start⟩] (by simp) (fun s hs _ => by rw [List.mem_singleton.1 hs]; exact ⟨hs1, hs2⟩) 0 (Nat.zero_le _)
    refine W.rseq (k := 12) rfl fun K hK => ?_
    simp only [go_sem]
    refine VCall.frzq (as' := [.ro (([⟨true, g.start⟩] : List Sy).map eSy), .ro (w.map eIn), .int .i64 ((0 : Nat) : Int), .ro (e3 M N N (spanF g w)), .ro (e3 (2 * M) N N (spanF (wildG g) w)), .int .i64 g.nons]) 7 (frzA (by kernel_rfl)) hp0 ?_
    simp only [go_sem]
    refine hK _ _ _ ?_
    first | clear hK K | clear hK | skip
    have hsok := start_ok (kind := kind) hG hrc hw
    have hgE : (e1 N F0)[w.length]? = some [.bool (F0 w.length)] := e1_get (by omega)
    have hwN : (w.length : Int) < (N : Int) := by omega
    have hnE : 0 < 100 := by omega
    refine W.seq ?_
    refine W.rseq (k := 18) rfl fun K hK => ?_
    have cnd : ∀ (t2 : Fr) (b' : Bool) (h2 : Heap) (n2 : Nat), t2 76 = .bool (!b') → (b' = true ↔ Ok g w (kind = 2) [⟨true, g.start⟩] 0) → (t2 1 = .ro (w.map eIn) ∧ t2 2 = .int .i64 kind ∧ t2 3 = .ptr 0 0 0 ∧ t2 8 = .ro (e3 M N N (spanF g w)) ∧ t2 9 = .ro (e3 (2 * M) N N (spanF (wildG g) w)) ∧ t2 10 = .ro ((ranksL g true).map eFc)) → t2 11 = .sl 30 0 1 2 → h2 0 = some (.cells [eGr g]) → h2 30 = some (.cells [eSy ⟨true, g.start⟩]) → 30 < n2 → K t2 h2 n2 := by
      intro t2 b' h2 n2 q1 q2 q3 q4 q5 q6 q7
      refine hK _ _ _ ?_
      clear hK K
      cases b' with
      | false =>
        refine W.condT (by simp only [go_sem, q1]) ?_
        refine W.rseq (k := 2) rfl fun K hK => ?_
        simp only [go_sem]
        refine hK _ _ _ ?_
        clear hK K
        refine W.ret ?_
        simp only [go_sem]
        have : ¬ (goodS g w kind l).testBit 0 = true := fun e => by
          have := q2.2 (hsok.1 e)
          cases this
        rw [hR, by_no this]
        exact ⟨.nils, rfl, .inl ⟨rfl, rfl⟩⟩
      | true =>
        refine W.condF (by simp only [go_sem, q1]) ?_
        refine W.skip ?_
        simp only [go_sem]
        have hok0 := q2.1 rfl
        rw [by_yes (hsok.2 hok0)] at hR
        refine W.rseq (k := 2) rfl fun K hK => ?_
        simp only [go_sem]
        refine hK _ _ _ ?_
        clear hK K
        refine W.rseq (k := 1) rfl fun K hK => ?_
        simp only [go_sem]
        refine hK _ _ _ ?_
        clear hK K
        refine W.seqk fun K hK => ?_
        have nx0 : ∀ (t' : Fr) (h' : Heap) (n' : Nat) (out : List Int), R = (0, out) → SlL eIn 1 h' 1 n' (t' 14) out → K t' h' n' := by
          intro t' h' n' out p1 p2
          refine hK _ _ _ ?_
          clear hK K
          refine W.rseq (k := 3) rfl fun K hK => ?_
          simp only [go_sem]
          refine hK _ _ _ ?_
          clear hK K
          refine W.ret ?_
          simp only [go_sem]
          rw [p1]
          exact ⟨_, rfl, p2.next rfl (fun x _ _ => rfl) (by omega) (by omega)⟩
        clear hK
        refine W.block (W.while (fun mm t h n => ∃ (T : List Lt) (a : Nat) (out : List Int) (k : Nat), mm = muT T out ∧ muT T out < k ∧ runL g w l kind k T a out = R ∧ ConsT w l kind T ∧ NtT g T ∧ a ≤ w.length ∧ Ok g w (kind = 2) (T.map (fun x : Lt => x.1)) a ∧ out.length ≤ 2000 ∧ T.length + 8 * (2000 - out.length) ≤ 2 ^ 20 ∧ 0 < n ∧ h 0 = some (.cells [eGr g]) ∧ SlO h n (t 11) (T.map (fun x : Lt => x.1)) ∧ SlL eIn 1 h 1 n (t 14) out ∧ (t 1 = .ro (w.map eIn) ∧ t 2 = .int .i64 kind ∧ t 3 = .ptr 0 0 0 ∧ t 8 = .ro (e3 M N N (spanF g w)) ∧ t 9 = .ro (e3 (2 * M) N N (spanF (wildG g) w)) ∧ t 10 = .ro ((ranksL g true).map eFc)) ∧ t 15 = .int .i64 a) 18001
          ⟨[(⟨true, g.start⟩, goodS g w kind l)], 0, [], 18002, rfl, by show 2000 * 9 + 1 < 18002; decide, hR.symm, (start_T hG).1, (start_T hG).2, Nat.zero_le _, hok0, Nat.zero_le _, by show 1 + 8 * 2000 ≤ 2 ^ 20; decide, by omega, q5, .inr ⟨by simp, 30, 0, _, q4, by omega, by omega, q6, Nat.le_refl _, rfl⟩, .inl ⟨rfl, rfl⟩, q3, rfl⟩ fun mm t h n ⟨T, a, out, k, i1, i2, i3, i4, i5, i6, i7, i8, i9, i10, i11, i12, i13, i14, i15⟩ => ?_)
        clear hR q1 q2 q3 q4 q5 q6 q7 hok0
        have i14' := i14
        obtain ⟨a1, a2, a3, a8, a9, a10⟩ := i14'
        obtain ⟨k, rfl⟩ : ∃ k', k = k' + 1 := ⟨k - 1, by omega⟩
        refine W.seq ?_
        cases T with
        | nil =>
          rcases i12 with ⟨_, e0 | e0⟩ | ⟨e0, _⟩
          · refine W.rseq (k := 3) rfl fun K hK => ?_
            simp only [go_sem, e0]
            refine hK _ _ _ ?_
            clear hK K
            refine W.condF (by simp only [go_sem]) ?_
            refine W.exit ?_
            simp only [go_sem]
            exact nx0 _ _ _ out (by rw [← i3]; rfl) (i13.next rfl (fun _ _ _ => rfl) (by omega) (Nat.le_refl _))
          · refine W.rseq (k := 3) rfl fun K hK => ?_
            simp only [go_sem, e0, List.length_nil]
            refine hK _ _ _ ?_
            clear hK K
            refine W.condF (by simp only [go_sem]) ?_
            refine W.exit ?_
            simp only [go_sem]
            exact nx0 _ _ _ out (by rw [← i3]; rfl) (i13.next rfl (fun _ _ _ => rfl) (by omega) (Nat.le_refl _))
          · exact absurd rfl e0
        | cons x T =>
          rcases i12 with ⟨e0, _⟩ | ⟨_, b, off, es, e1', e2', e3', e4', e5', e6'⟩
          · cases e0
          rw [List.map_cons] at e1' e5' e6'
          rw [List.length_cons, List.length_map] at e1' e5'
          obtain ⟨c1, c2⟩ := cut_one (l := T.map (fun x : Lt => x.1)) (s := x.1) (by rw [List.length_cons] at e6'; exact e6') (by rw [List.length_map]; exact e5')
          rw [List.length_map] at c2
          refine W.rseq (k := 3) rfl fun K hK => ?_
          simp only [go_sem, e1']
          refine hK _ _ _ ?_
          clear hK K
          refine W.condT (by simp only [go_sem]; exact congrArg (fun b => some (AV.bool b)) (decide_eq_true (by omega))) ?_
          refine W.skip ?_
          simp only [go_sem]
          refine W.block ?_
          have zb : ∀ j, ¬ b = n + j := fun j => by omega
          have z0 : ∀ j, ¬ 0 = n + j := fun j => by omega
          refine W.rseq (k := 5) rfl fun K hK => ?_
          simp only [go_sem, e1', e4', c1, Nat.add_zero, show (0 : Int) < ((T.length + 1 : Nat) : Int) by omega]
          refine hK _ _ _ ?_
          clear hK K
          have hwT : (T.length : Nat) + 1 - 1 = T.length := by omega
          obtain ⟨tv, htv⟩ : ∃ tv, tv = if T = [] then AV.ro [] else AV.sl b (off + 1) T.length 2 := ⟨_, rfl⟩
          have tvO : ∀ (h' : Heap) (n' : Nat), n ≤ n' → (∀ y, 0 < y → y < n → h' y = h y) → SlO h' n' tv (T.map (fun x : Lt => x.1)) := fun h' n' p1 p2 => by
            by_cases hT0 : T = []
            · rw [htv, if_pos hT0, hT0]
              exact .inl ⟨rfl, .inr rfl⟩
            · rw [htv, if_neg hT0]
              exact .inr ⟨fun e => hT0 (List.map_eq_nil_iff.1 e), b, off + 1, es, by rw [List.length_map], e2', by omega, (p2 b e2' e3').trans e4', by rw [List.length_map]; omega, by rw [List.length_map]; exact c2⟩
          have hn' : NtT g T := fun y hy => i5 y (by simp [hy])
          rw [List.length_cons] at i9
          rw [muT, List.length_cons] at i2
          rw [muT, List.length_cons] at i1
          have hsame : ∀ y, y < n → upd (upd h (n + 6) (some (AO.cells [[AV.bool false, AV.int .i64 0]]))) (n + 6) (some (AO.cells [[AV.bool x.1.non, AV.int .i64 x.1.n]])) y = h y := fun y hy => by simp only [go_sem, show ¬ y = n + 6 by omega]
          obtain ⟨H, hH⟩ : ∃ H, H = upd (upd h (n + 6) (some (AO.cells [[AV.bool false, AV.int .i64 0]]))) (n + 6) (some (AO.cells [[AV.bool x.1.non, AV.int .i64 x.1.n]])) := ⟨_, rfl⟩
          have hH6 : H (n + 6) = some (.cells [[AV.bool x.1.non, AV.int .i64 x.1.n]]) := by rw [hH]; simp only [go_sem]
          rw [← hH] at hsame
          try rw [← hH]
          have hH0 : H 0 = some (.cells [eGr g]) := by rw [hsame 0 (by omega)]; exact i11
          refine W.seq ?_
          cases hx : x.1.non
          · rw [hx] at hH6
            refine W.rseq (k := 3) rfl fun K hK => ?_
            simp only [go_sem, hH6]
            refine hK _ _ _ ?_
            clear hK K
            refine W.condT (by simp only [go_sem]) ?_
            have hstep : Ok g w (kind = 2) (T.map (fun x : Lt => x.1)) (min (a + 1) w.length) := by
              rcases i7 with ⟨p1, p2⟩ | p
              · rw [p2, Nat.min_eq_right (by omega)]
                exact Ok.end p1 _
              · rw [hx, if_neg Bool.false_ne_true] at p
                have := (List.getElem?_eq_some_iff.1 p.1).1
                rw [Nat.min_eq_left (by omega)]
                exact p.2
            have nxt : ∀ (t' : Fr) (h' : Heap) (n' : Nat), n ≤ n' → (∀ y, y < n → h' y = h y) → (t' 1 = .ro (w.map eIn) ∧ t' 2 = .int .i64 kind ∧ t' 3 = .ptr 0 0 0 ∧ t' 8 = .ro (e3 M N N (spanF g w)) ∧ t' 9 = .ro (e3 (2 * M) N N (spanF (wildG g) w)) ∧ t' 10 = .ro ((ranksL g true).map eFc)) → t' 11 = tv → t' 14 = t 14 → t' 15 = .int .i64 ((min (a + 1) w.length : Nat) : Int) → ∃ k', k' < mm ∧ ∃ (T : List Lt) (a : Nat) (out : List Int) (k : Nat), k' = muT T out ∧ muT T out < k ∧ runL g w l kind k T a out = R ∧ ConsT w l kind T ∧ NtT g T ∧ a ≤ w.length ∧ Ok g w (kind = 2) (T.map (fun x : Lt => x.1)) a ∧ out.length ≤ 2000 ∧ T.length + 8 * (2000 - out.length) ≤ 2 ^ 20 ∧ 0 < n' ∧ h' 0 = some (.cells [eGr g]) ∧ SlO h' n' (t' 11) (T.map (fun x : Lt => x.1)) ∧ SlL eIn 1 h' 1 n' (t' 14) out ∧ (t' 1 = .ro (w.map eIn) ∧ t' 2 = .int .i64 kind ∧ t' 3 = .ptr 0 0 0 ∧ t' 8 = .ro (e3 M N N (spanF g w)) ∧ t' 9 = .ro (e3 (2 * M) N N (spanF (wildG g) w)) ∧ t' 10 = .ro ((ranksL g true).map eFc)) ∧ t' 15 = .int .i64 a := by
              intro t' h' n' p1 p2 p3 p4 p5 p6
              refine ⟨muT T out, by rw [i1, muT]; omega, T, min (a + 1) w.length, out, k, rfl, by rw [muT]; omega, by rw [← i3, run_term hx], i4.2, hn', Nat.min_le_right _ _, hstep, i8, by omega, by omega, by rw [p2 0 (by omega)]; exact i11, ?_, ?_, p3, p6⟩
              · rw [p4]; exact tvO _ _ p1 fun y _ hy => p2 y hy
              · exact i13.next p5 (fun y _ hy => p2 y hy) p1 (Nat.le_refl _)
            refine W.rseq (k := 3) rfl fun K hK => ?_
            have nx15 : ∀ (t' : Fr) (n' : Nat), n ≤ n' → t' 11 = tv → (t' 1 = .ro (w.map eIn) ∧ t' 2 = .int .i64 kind ∧ t' 3 = .ptr 0 0 0 ∧ t' 8 = .ro (e3 M N N (spanF g w)) ∧ t' 9 = .ro (e3 (2 * M) N N (spanF (wildG g) w)) ∧ t' 10 = .ro ((ranksL g true).map eFc)) → t' 14 = t 14 → t' 15 = .int .i64 (a : Nat) → K t' H n' := by
              intro t' n' p0 p1 p2 p3 p4
              refine hK _ _ _ ?_
              clear hK K
              have p2' := p2
              obtain ⟨d1, d2, d3, d8, d9, d10⟩ := p2'
              refine W.seqk fun K hK => ?_
              have nx16 : ∀ (t' : Fr) (n' : Nat), n ≤ n' → t' 11 = tv → (t' 1 = .ro (w.map eIn) ∧ t' 2 = .int .i64 kind ∧ t' 3 = .ptr 0 0 0 ∧ t' 8 = .ro (e3 M N N (spanF g w)) ∧ t' 9 = .ro (e3 (2 * M) N N (spanF (wildG g) w)) ∧ t' 10 = .ro ((ranksL g true).map eFc)) → t' 14 = t 14 → t' 15 = .int .i64 ((min (a + 1) w.length : Nat) : Int) → K t' H n' := by
                intro t' n' p0 p1 p2 p3 p4
                refine hK _ _ _ ?_
                clear hK K
                refine W.exit ?_
                simp only [go_sem]
                exact nxt _ _ _ p0 hsame p2 p1 p3 p4
              clear hK
              refine W.rseq (k := 4) rfl fun K hK => ?_
              simp only [go_sem, d1, p4, List.length_map]
              refine hK _ _ _ ?_
              clear hK K
              refine W.cond rfl (fun hc => ?_) fun hc => ?_
              · have hal : a < w.length := by simp at hc; omega
                refine W.region (k := 3) rfl ?_
                simp only [go_sem, p4]
                refine nx16 _ _ (by omega) p1 p2 p3 ?_
                rw [wrap64 (by omega) (by omega), Nat.min_eq_left (by omega)]; rfl
              · refine W.skip ?_
                simp only [go_sem]
                have hal : a = w.length := by simp at hc; omega
                exact nx16 _ _ (by omega) p1 p2 p3 (show t' 15 = _ by rw [p4, Nat.min_eq_right (by omega), hal])
            clear hK
            by_cases hT0 : T = []
            · rw [if_pos hT0] at htv
              rw [hT0, List.length_nil, Nat.zero_add] at e1'
              simp only [go_sem, e1', Nat.le_refl, and_self, if_true, show ¬ (1 : Nat) = 0 by omega, if_false]
              exact nx15 _ _ (by omega) (by rw [htv]; rfl) i14 rfl i15
            · rw [if_neg hT0] at htv
              have hT1 : ¬ (1 = T.length + 1) := fun e => hT0 (List.length_eq_zero_iff.1 (by omega))
              simp only [go_sem, e1', Nat.le_refl, and_self, if_true, show ¬ (1 : Nat) = 0 by omega, if_false, show 1 ≤ T.length + 1 by omega, hT1, Nat.add_sub_cancel]
              exact nx15 _ _ (by omega) (by rw [htv]; rfl) i14 rfl i15
          · rw [hx] at hH6
            refine W.rseq (k := 3) rfl fun K hK => ?_
            simp only [go_sem, hH6]
            refine hK _ _ _ ?_
            clear hK K
            refine W.condF (by simp only [go_sem]) ?_
            refine W.skip ?_
            simp only [go_sem]
            obtain ⟨hx0, hx1⟩ := i5 x (by simp) hx
            obtain ⟨ξ, hξ⟩ : ∃ ξ : Nat, x.1.n = ξ := ⟨x.1.n.toNat, by omega⟩
            rw [hξ] at hH6
            have hov : (out = [] ∧ t 14 = .nils) ∨ ∃ b', t 14 = .sl b' 0 out.length 1 ∧ 1 ≤ b' ∧ b' < n ∧ h b' = some (.cells (out.map eIn)) := i13
            obtain ⟨v14, hv14⟩ : ∃ v14, v14 = t 14 := ⟨_, rfl⟩
            rw [← hv14] at hov
            refine W.seqk fun K hK => ?_
            have nx18 : ∀ (t' : Fr) (n' : Nat), n + 8 ≤ n' → ¬ out.length = 2000 → (t' 1 = .ro (w.map eIn) ∧ t' 2 = .int .i64 kind ∧ t' 3 = .ptr 0 0 0 ∧ t' 8 = .ro (e3 M N N (spanF g w)) ∧ t' 9 = .ro (e3 (2 * M) N N (spanF (wildG g) w)) ∧ t' 10 = .ro ((ranksL g true).map eFc)) → t' 11 = .sl b off (T.length + 1) 2 → t' 14 = v14 → t' 15 = .int .i64 (a : Nat) → t' 16 = .ptr (n + 6) 0 0 → K t' H n' := by
              intro t' n' p0 ho p1 p2 p3 p4 p5
              refine hK _ _ _ ?_
              clear hK K
              obtain ⟨d1, d2, d3, d8, d9, d10⟩ := p1
              obtain ⟨i, p, hp, hpl, htry, hc2, hn2, hok2, hpo, hmap⟩ := run_step hG hrc hw i4 i5 i6 hx i7
              rw [run_some hx ho htry] at i3
              have hbst := bst_try hG hx0 hx1 htry
              rw [hξ] at hbst htry
              have hpm := h5 p (List.mem_of_getElem? hp)
              have hne := hG.of x.1.n hx0 hx1
              rw [hξ] at hne
              have z0' : ∀ j, ¬ 0 = n' + j := fun j => by omega
              have z6' : ∀ j, ¬ n + 6 = n' + j := fun j => by omega
              refine W.rseq (k := 5) rfl fun K hK => ?_
              simp only [go_sem, d3, hH0, p5, hH6]
              refine VCall.own (sz := 1) (es := (prodsL g ξ).map eIn) 6 (f112' g ξ (by omega) hne) rfl ?_
              simp only [go_sem, List.length_map]
              refine hK _ _ _ ?_
              first | clear hK K | clear hK | skip
              have sm0 : ∀ (o : Option AO) (y : Nat), y < n + 8 → upd H (n' + 3) o y = H y := fun o y hy => by simp only [go_sem, show ¬ y = n' + 3 by omega]
              refine W.seqk fun K hK => ?_
              have nx21 : ∀ (t' : Fr) (h' : Heap) (n' : Nat) (C : List Int) (bc : Nat), n + 8 ≤ bc → bc < n' → h' bc = some (.cells (C.map eIn)) → (∀ y, y < n + 8 → h' y = H y) → C = canR g w kind a ξ → C.length < 2 ^ 40 → (t' 1 = .ro (w.map eIn) ∧ t' 2 = .int .i64 kind ∧ t' 3 = .ptr 0 0 0 ∧ t' 8 = .ro (e3 M N N (spanF g w)) ∧ t' 9 = .ro (e3 (2 * M) N N (spanF (wildG g) w)) ∧ t' 10 = .ro ((ranksL g true).map eFc)) → (t' 11 = .sl b off (T.length + 1) 2 ∧ t' 14 = v14 ∧ t' 15 = .int .i64 (a : Nat)) → t' 17 = .sl bc 0 C.length 1 → K t' h' n' := by
                intro t' h' n' C bc q0 q1 q2 q3 q4 q5 q6 q7 q8
                refine hK _ _ _ ?_
                clear hK K d1 d2 d3 d8 d9 d10
                rw [← q4] at hbst
                refine W.rseq (k := 1) rfl fun K hK => ?_
                simp only [go_sem]
                refine hK _ _ _ ?_
                clear hK K
                refine W.seqk fun K hK => ?_
                have nx32 : ∀ (t' : Fr) (h' : Heap) (n' : Nat), n + 8 ≤ n' → (∀ y, y < n + 8 → h' y = H y) → (t' 1 = .ro (w.map eIn) ∧ t' 2 = .int .i64 kind ∧ t' 3 = .ptr 0 0 0 ∧ t' 8 = .ro (e3 M N N (spanF g w)) ∧ t' 9 = .ro (e3 (2 * M) N N (spanF (wildG g) w)) ∧ t' 10 = .ro ((ranksL g true).map eFc)) → (t' 11 = .sl b off (T.length + 1) 2 ∧ t' 14 = v14 ∧ t' 15 = .int .i64 (a : Nat)) → t' 18 = .int .i64 (i : Nat) → K t' h' n' := by
                  intro t' h' n' r0 r1 r2 r3 r4
                  refine hK _ _ _ ?_
                  clear hK K
                  have r2' := r2
                  obtain ⟨f1, f2, f3, f8, f9, f10⟩ := r2'
                  obtain ⟨f11, f14, f15⟩ := r3
                  have h30 : h' 0 = some (.cells [eGr g]) := by rw [r1 0 (by omega)]; exact hH0
                  have h3b : h' b = some (.cells es) := by rw [r1 b (by omega), hsame b e3']; exact e4'
                  have zb2 : ∀ j, ¬ b = n' + j := fun j => by omega
                  have z02 : ∀ j, ¬ 0 = n' + j := fun j => by omega
                  have lb2 : ∀ j, (b < n' + j) = True := fun j => eq_true (by omega)
                  have lb3 : (b < n') = True := eq_true (by omega)
                  have l02 : ∀ j, (0 < n' + j) = True := fun j => eq_true (by omega)
                  have l03 : (0 < n') = True := eq_true (by omega)
                  have c2' : (es.drop (off + 1)).take T.length = (T.map (fun x : Lt => x.1)).map eSy := c2
                  have hlo : off + 1 + T.length ≤ es.length := by omega
                  have hlo2 : off + (1 + T.length) ≤ es.length := by omega
                  have hn210 : (n' ≤ n' + 7) = True := eq_true (by omega)
                  have hne0 : (∀ e : List AV, e ∈ ([] : List (List AV)) → e.length = 2) = True := by simp
                  have sm27 : ∀ (y : Nat), y < n' → ∀ k, ¬ y = n' + k := fun y hy k => by omega
                  refine W.seqk fun K hK => ?_
                  have nx33 : ∀ (t2 : Fr) (h2 : Heap) (n2 : Nat), n' ≤ n2 → (∀ y, y < n' → h2 y = h' y) → (t2 1 = .ro (w.map eIn) ∧ t2 2 = .int .i64 kind ∧ t2 3 = .ptr 0 0 0 ∧ t2 8 = .ro (e3 M N N (spanF g w)) ∧ t2 9 = .ro (e3 (2 * M) N N (spanF (wildG g) w)) ∧ t2 10 = .ro ((ranksL g true).map eFc)) → t2 14 = v14 → t2 15 = .int .i64 (a : Nat) → t2 18 = .int .i64 (i : Nat) → SlL eSy 2 h2 n' n2 (t2 11) (p.right ++ T.map (fun x : Lt => x.1)) → (p.right ++ T.map (fun x : Lt => x.1) = [] → t2 11 = .nils) → K t2 h2 n2 := by
                    intro t2 h2 n2 m0 m1 m2 m3 m4 m5 m6 m7
                    refine hK _ _ _ ?_
                    clear hK K
                    have hs2 : ∀ y, y < n → h2 y = h y := fun y hy => by rw [m1 y (by omega), r1 y (by omega), hsame y hy]
                    have z2 : ∀ j, ¬ 0 = n2 + j := fun j => by omega
                    have nxt : ∀ (t3 : Fr) (h3 : Heap) (n3 : Nat), n2 ≤ n3 → h3 0 = some (.cells [eGr g]) → (∀ y, n' ≤ y → y < n2 → h3 y = h2 y) → (t3 1 = .ro (w.map eIn) ∧ t3 2 = .int .i64 kind ∧ t3 3 = .ptr 0 0 0 ∧ t3 8 = .ro (e3 M N N (spanF g w)) ∧ t3 9 = .ro (e3 (2 * M) N N (spanF (wildG g) w)) ∧ t3 10 = .ro ((ranksL g true).map eFc)) → t3 11 = t2 11 → t3 15 = .int .i64 (a : Nat) → SlL eIn 1 h3 1 n3 (t3 14) (out ++ [(i : Int)]) → ∃ k', k' < mm ∧ ∃ (T : List Lt) (a : Nat) (out : List Int) (k : Nat), k' = muT T out ∧ muT T out < k ∧ runL g w l kind k T a out = R ∧ ConsT w l kind T ∧ NtT g T ∧ a ≤ w.length ∧ Ok g w (kind = 2) (T.map (fun x : Lt => x.1)) a ∧ out.length ≤ 2000 ∧ T.length + 8 * (2000 - out.length) ≤ 2 ^ 20 ∧ 0 < n3 ∧ h3 0 = some (.cells [eGr g]) ∧ SlO h3 n3 (t3 11) (T.map (fun x : Lt => x.1)) ∧ SlL eIn 1 h3 1 n3 (t3 14) out ∧ (t3 1 = .ro (w.map eIn) ∧ t3 2 = .int .i64 kind ∧ t3 3 = .ptr 0 0 0 ∧ t3 8 = .ro (e3 M N N (spanF g w)) ∧ t3 9 = .ro (e3 (2 * M) N N (spanF (wildG g) w)) ∧ t3 10 = .ro ((ranksL g true).map eFc)) ∧ t3 15 = .int .i64 a := by
                      intro t3 h3 n3 y0 y1 y2 y3 y4 y5 y6
                      have h8 := hpm.2.1
                      have hLl : (layL w l kind T p.right).length = p.right.length + T.length := lay_len _
                      refine ⟨muT (layL w l kind T p.right) (out ++ [(i : Int)]), ?_, layL w l kind T p.right, a, out ++ [(i : Int)], k, rfl, ?_, i3, hc2, hn2, i6, hok2, ?_, ?_, by omega, y1, ?_, y6, y3, y5⟩
                      · rw [i1, muT, hLl, List.length_append, List.length_singleton]; omega
                      · rw [muT, hLl, List.length_append, List.length_singleton]; omega
                      · rw [List.length_append, List.length_singleton]; omega
                      · rw [hLl, List.length_append, List.length_singleton]; omega
                      · rw [y4, hmap]
                        rcases m6 with ⟨x0, x1⟩ | ⟨bq, x1, x2, x3, x4⟩
                        · exact .inl ⟨x0, .inl x1⟩
                        · by_cases hq0 : p.right ++ T.map (fun x : Lt => x.1) = []
                          · exact .inl ⟨hq0, .inl (m7 hq0)⟩
                          · exact .inr ⟨hq0, bq, 0, _, x1, by omega, by omega, by rw [y2 bq x2 x3]; exact x4, by rw [List.length_map]; omega, by rw [List.drop_zero, List.take_of_length_le (by rw [List.length_map]; exact Nat.le_refl _)]⟩
                    obtain ⟨K3, hKe⟩ : ∃ K3 : Fr → Heap → Nat → Prop, K3 = fun t3 h3 n3 => ∃ k', k' < mm ∧ ∃ (T : List Lt) (a : Nat) (out : List Int) (k : Nat), k' = muT T out ∧ muT T out < k ∧ runL g w l kind k T a out = R ∧ ConsT w l kind T ∧ NtT g T ∧ a ≤ w.length ∧ Ok g w (kind = 2) (T.map (fun x : Lt => x.1)) a ∧ out.length ≤ 2000 ∧ T.length + 8 * (2000 - out.length) ≤ 2 ^ 20 ∧ 0 < n3 ∧ h3 0 = some (.cells [eGr g]) ∧ SlO h3 n3 (t3 11) (T.map (fun x : Lt => x.1)) ∧ SlL eIn 1 h3 1 n3 (t3 14) out ∧ (t3 1 = .ro (w.map eIn) ∧ t3 2 = .int .i64 kind ∧ t3 3 = .ptr 0 0 0 ∧ t3 8 = .ro (e3 M N N (spanF g w)) ∧ t3 9 = .ro (e3 (2 * M) N N (spanF (wildG g) w)) ∧ t3 10 = .ro ((ranksL g true).map eFc)) ∧ t3 15 = .int .i64 a := ⟨_, rfl⟩
                    have hK3 : ∀ (t3 : Fr) (h3 : Heap) (n3 : Nat), n2 ≤ n3 → h3 0 = some (.cells [eGr g]) → (∀ y, n' ≤ y → y < n2 → h3 y = h2 y) → (t3 1 = .ro (w.map eIn) ∧ t3 2 = .int .i64 kind ∧ t3 3 = .ptr 0 0 0 ∧ t3 8 = .ro (e3 M N N (spanF g w)) ∧ t3 9 = .ro (e3 (2 * M) N N (spanF (wildG g) w)) ∧ t3 10 = .ro ((ranksL g true).map eFc)) → t3 11 = t2 11 → t3 15 = .int .i64 (a : Nat) → SlL eIn 1 h3 1 n3 (t3 14) (out ++ [(i : Int)]) → K3 t3 h3 n3 := by
                      rw [hKe]
                      exact nxt
                    refine W.post K3 (fun t3 h3 n3 q => by rw [hKe] at q; simp only [go_sem]; exact q) ?_
                    clear hKe nxt
                    refine W.region (k := 5) rfl ?_
                    rcases hov with ⟨w0, rfl⟩ | ⟨b', rfl, w1, w2, w3⟩
                    · simp only [go_sem, m3, m5, show (n2 ≤ n2 + 2) = True from eq_true (by omega), if_true, Nat.one_mul]
                      refine hK3 _ _ _ (by omega) (by simp only [go_sem, z2]; rw [hs2 0 (by omega)]; exact i11) (fun y _ hy => by simp only [go_sem, show ∀ j, ¬ y = n2 + j from fun j => by omega]) m2 rfl m4 (.inr ⟨n2 + 3, by rw [w0]; rfl, by omega, by omega, by rw [w0]; simp only [go_sem]; rfl⟩)
                    · have hb' : h2 b' = some (.cells (out.map eIn)) := (hs2 b' w2).trans w3
                      have z3 : ∀ j, ¬ b' = n2 + j := fun j => by omega
                      have tkL : (out.map eIn).take out.length = out.map eIn := List.take_of_length_le (by simp)
                      simp only [go_sem, m3, m5, hb', z3, tkL, List.length_map, and_false, if_false, if_true, show (out.length + 1) * 8 ≤ 140737488355328 by omega, show (n2 ≤ b') = False from eq_false (by omega)]
                      refine hK3 _ _ _ (by omega) (by simp only [go_sem, z2, show ¬ 0 = b' by omega]; rw [hs2 0 (by omega)]; exact i11) (fun y hy1 hy => by simp only [go_sem, show ∀ j, ¬ y = n2 + j from fun j => by omega, show ¬ y = b' by omega]) m2 rfl m4 (.inr ⟨n2 + 3, by rw [List.length_append]; rfl, by omega, by omega, by simp only [go_sem]; rw [List.map_append]; rfl⟩)
                  clear hK
                  refine W.draw (k := 12) rfl ?_
                  by_cases hT0 : T = []
                  · have hTm : T.map (fun x : Lt => x.1) = [] := by rw [hT0]; rfl
                    rw [hT0, List.length_nil, Nat.zero_add] at f11
                    by_cases hr0 : p.right = []
                    · have hd1 : True := trivial
                      have hie : (p.right.map eSy).isEmpty = true := by rw [hr0]; rfl
                      simp only [go_sem, f3, h30, f14, r4, hp, f11, zb2, z02, lb2, lb3, l02, l03, h3b, if_true, if_false, and_false, Nat.lt_irrefl, len_map (e := eSy) (sz := 2) (fun x => rfl), hne0, List.isEmpty_nil, hie, Nat.le_refl, and_self, show ¬ (1 : Nat) = 0 by omega, Bool.false_eq_true, List.length_map, hlo2, hn210]
                      refine ⟨by kernel_rfl, ?_⟩
                      exact nx33 _ _ _ (by omega) (fun y hy => rfl) r2 f14 f15 r4 (.inl ⟨by rw [hTm, hr0]; rfl, rfl⟩) fun _ => rfl
                    · have hd1 : True := trivial
                      have hie : (p.right.map eSy).isEmpty = false := by
                        rw [List.isEmpty_eq_false_iff]
                        exact fun e => hr0 (List.map_eq_nil_iff.1 e)
                      simp only [go_sem, f3, h30, f14, r4, hp, f11, zb2, z02, lb2, lb3, l02, l03, h3b, if_true, if_false, and_false, Nat.lt_irrefl, len_map (e := eSy) (sz := 2) (fun x => rfl), hne0, List.isEmpty_nil, hie, Nat.le_refl, and_self, show ¬ (1 : Nat) = 0 by omega, Bool.false_eq_true, List.length_map, hlo2, hn210, List.length_nil, Nat.add_zero, List.append_nil, show p.right.length * 16 ≤ 140737488355328 by omega]
                      refine ⟨by kernel_rfl, ?_⟩
                      refine nx33 _ _ _ (by omega) (fun y hy => by simp only [go_sem, sm27 y hy]) r2 f14 f15 r4 (.inr ⟨n' + 10, by rw [hTm, List.append_nil]; rfl, by omega, by omega, ?_⟩) fun e => absurd (List.append_eq_nil_iff.1 e).1 hr0
                      rw [hTm, List.append_nil]
                      simp only [go_sem]
                  · rw [← List.map_eq_nil_iff (f := fun x : Lt => x.1)] at hT0
                    have hieT : ((T.map (fun x : Lt => x.1)).map eSy).isEmpty = false := by
                      rw [List.isEmpty_eq_false_iff]
                      exact fun e => hT0 (List.map_eq_nil_iff.1 e)
                    have hT1 : ¬ (1 = T.length + 1) := fun e => hT0 (by rw [List.length_eq_zero_iff.1 (show T.length = 0 by omega)]; rfl)
                    by_cases hr0 : p.right = []
                    · have hd1 : True := trivial
                      have hie : (p.right.map eSy).isEmpty = true := by rw [hr0]; rfl
                      simp only [go_sem, f3, h30, f14, r4, hp, f11, zb2, z02, lb2, lb3, l02, l03, h3b, if_true, if_false, and_false, Nat.lt_irrefl, len_map (e := eSy) (sz := 2) (fun x => rfl), hne0, List.isEmpty_nil, hie, Nat.le_refl, and_self, show ¬ (1 : Nat) = 0 by omega, Bool.false_eq_true, List.length_map, hlo2, hn210, hT1, hieT, c2', hlo, Nat.add_sub_cancel, show 1 ≤ T.length + 1 by omega, show T.length * 16 ≤ 140737488355328 by omega]
                      refine ⟨by kernel_rfl, ?_⟩
                      refine nx33 _ _ _ (by omega) (fun y hy => by simp only [go_sem, sm27 y hy]) r2 f14 f15 r4 (.inr ⟨n' + 10, by rw [hr0, List.nil_append, List.length_map]; rfl, by omega, by omega, ?_⟩) fun e => absurd (List.append_eq_nil_iff.1 e).2 hT0
                      rw [hr0, List.nil_append]
                      simp only [go_sem]
                    · have hd1 : True := trivial
                      have hie : (p.right.map eSy).isEmpty = false := by
                        rw [List.isEmpty_eq_false_iff]
                        exact fun e => hr0 (List.map_eq_nil_iff.1 e)
                      simp only [go_sem, f3, h30, f14, r4, hp, f11, zb2, z02, lb2, lb3, l02, l03, h3b, if_true, if_false, and_false, Nat.lt_irrefl, len_map (e := eSy) (sz := 2) (fun x => rfl), hne0, List.isEmpty_nil, hie, Nat.le_refl, and_self, show ¬ (1 : Nat) = 0 by omega, Bool.false_eq_true, List.length_map, hlo2, hn210, hT1, hieT, c2', hlo, Nat.add_sub_cancel, show 1 ≤ T.length + 1 by omega, show p.right.length * 16 ≤ 140737488355328 by omega, show (p.right.length + T.length) * 16 ≤ 140737488355328 by omega, show ¬ (p.right.length + T.length ≤ p.right.length ∧ p.right.length < p.right.length) by omega, Nat.zero_add]
                      refine ⟨by kernel_rfl, ?_⟩
                      refine nx33 _ _ _ (by omega) (fun y hy => by simp only [go_sem, sm27 y hy]) r2 f14 f15 r4 (.inr ⟨n' + 10, by rw [List.length_append, List.length_map]; rfl, by omega, by omega, ?_⟩) fun e => absurd (List.append_eq_nil_iff.1 e).1 hr0
                      rw [List.map_append]
                      simp only [go_sem]
                clear hK
                refine W.rseq (k := 1) rfl fun K hK => ?_
                simp only [go_sem]
                refine hK _ _ _ ?_
                clear hK K
                refine W.block (W.while (fun mm t h2 n2 => ∃ j : Nat, mm = C.length - j ∧ j ≤ C.length ∧ bc < n2 ∧ h2 bc = some (.cells (C.map eIn)) ∧ (∀ y, y < n + 8 → h2 y = H y) ∧ (t 1 = .ro (w.map eIn) ∧ t 2 = .int .i64 kind ∧ t 3 = .ptr 0 0 0 ∧ t 8 = .ro (e3 M N N (spanF g w)) ∧ t 9 = .ro (e3 (2 * M) N N (spanF (wildG g) w)) ∧ t 10 = .ro ((ranksL g true).map eFc)) ∧ (t 11 = .sl b off (T.length + 1) 2 ∧ t 14 = v14 ∧ t 15 = .int .i64 (a : Nat)) ∧ t 17 = .sl bc 0 C.length 1 ∧ t 18 = .int .i64 (bstF (decide (kind = 1)) (fitP g w l kind T a) (-1) (C.take j)) ∧ t 19 = .int .i64 j) C.length
                  ⟨0, rfl, by omega, by omega, q2, q3, q6, q7, q8, rfl, rfl⟩ fun mm t h2 n2 ⟨j, j1, j2, j3, j4, j5, j6, j7, j8, j9, j10⟩ => ?_)
                clear q2 q3 q6 q7 q8
                have j6' := j6
                obtain ⟨d1, d2, d3, d8, d9, d10⟩ := j6'
                have j7' := j7
                obtain ⟨d11, d14, d15⟩ := j7'
                refine W.seq ?_
                refine W.rseq (k := 4) rfl fun K hK => ?_
                simp only [go_sem, j8, j10]
                refine hK _ _ _ ?_
                clear hK K
                refine W.cond rfl (fun hc => ?_) fun hc => ?_
                · refine W.skip ?_
                  simp only [go_sem]
                  have hj : j < C.length := by simp at hc; omega
                  obtain ⟨c, hcj⟩ := get_some hj
                  obtain ⟨ci, rfl, hci, q, hq, hql⟩ := hG.cand hx0 hx1 (by rw [hξ]; exact canR_mem.1 (by rw [← q4]; exact List.mem_of_getElem? hcj))
                  have hqm := h5 q (List.mem_of_getElem? hq)
                  have hmj : (C.map eIn)[j]? = some [.int .i64 (ci : Int)] := by rw [List.getElem?_map, hcj]; rfl
                  have htkj : C.take (j + 1) = C.take j ++ [(ci : Int)] := by rw [List.take_add_one, hcj]; rfl
                  have hrow : ∀ s ∈ q.right ++ T.map (fun x : Lt => x.1), s.non = true → 0 ≤ s.n ∧ s.n < g.nons := fun s hs hn => by
                    rcases List.mem_append.1 hs with hs | hs
                    · have := hqm.2.2 s hs
                      rw [if_pos hn] at this
                      exact this
                    · obtain ⟨y, hy, rfl⟩ := List.mem_map.1 hs
                      exact hn' y hy hn
                  obtain ⟨F, o, hpf, hfo⟩ := reach (q.right ++ T.map (fun x : Lt => x.1)) (by rw [List.length_append, List.length_map]; omega) hrow a i6
                  have hfit : (if kind = 2 then o else F w.length) = fitP g w l kind T a ci := Bool.eq_iff_iff.2 (hfo.trans (fit_iff hG hrc hw i4.2 hn' i6 hq).symm)
                  refine W.seqk fun K hK => ?_
                  have nx26 : ∀ (t' : Fr) (h' : Heap) (n' : Nat), bc < n' → h' bc = some (.cells (C.map eIn)) → (∀ y, y < n + 8 → h' y = H y) → (t' 1 = .ro (w.map eIn) ∧ t' 2 = .int .i64 kind ∧ t' 3 = .ptr 0 0 0 ∧ t' 8 = .ro (e3 M N N (spanF g w)) ∧ t' 9 = .ro (e3 (2 * M) N N (spanF (wildG g) w)) ∧ t' 10 = .ro ((ranksL g true).map eFc)) → (t' 11 = .sl b off (T.length + 1) 2 ∧ t' 14 = v14 ∧ t' 15 = .int .i64 (a : Nat)) → t' 17 = .sl bc 0 C.length 1 → t' 18 = .int .i64 (bstF (decide (kind = 1)) (fitP g w l kind T a) (-1) (C.take (j + 1))) → t' 19 = .int .i64 j → K t' h' n' := by
                    intro t' h' n' r0 r1 r2 r3 r4 r5 r6 r7
                    refine hK _ _ _ ?_
                    clear hK K
                    refine W.region (k := 3) rfl ?_
                    simp only [go_sem, r7]
                    refine ⟨C.length - (j + 1), by omega, j + 1, rfl, by omega, by omega, r1, r2, r3, r4, r5, r6, ?_⟩
                    rw [wrap64 (by omega) (by omega)]; rfl
                  clear hK nx32
                  refine W.block ?_
                  have h20 : h2 0 = some (.cells [eGr g]) := by rw [j5 0 (by omega)]; exact hH0
                  have h2b : h2 b = some (.cells es) := by rw [j5 b (by omega), hsame b e3']; exact e4'
                  have zb2 : ∀ j, ¬ b = n2 + j := fun j => by omega
                  have z02 : ∀ j, ¬ 0 = n2 + j := fun j => by omega
                  have zc2 : ∀ j, ¬ bc = n2 + j := fun j => by omega
                  have lb2 : ∀ j, (b < n2 + j) = True := fun j => eq_true (by omega)
                  have lb3 : (b < n2) = True := eq_true (by omega)
                  have l02 : ∀ j, (0 < n2 + j) = True := fun j => eq_true (by omega)
                  have l03 : (0 < n2) = True := eq_true (by omega)
                  have lc2 : ∀ j, (bc < n2 + j) = True := fun j => eq_true (by omega)
                  have lc3 : (bc < n2) = True := eq_true (by omega)
                  refine W.seqk fun K hK => ?_
                  have nx28 : ∀ (t' : Fr) (h' : Heap) (n' : Nat), n2 ≤ n' → (∀ y, y < n2 → h' y = h2 y) → (t' 1 = .ro (w.map eIn) ∧ t' 2 = .int .i64 kind ∧ t' 3 = .ptr 0 0 0 ∧ t' 8 = .ro (e3 M N N (spanF g w)) ∧ t' 9 = .ro (e3 (2 * M) N N (spanF (wildG g) w)) ∧ t' 10 = .ro ((ranksL g true).map eFc)) → (t' 11 = .sl b off (T.length + 1) 2 ∧ t' 14 = v14 ∧ t' 15 = .int .i64 (a : Nat)) → t' 17 = .sl bc 0 C.length 1 → t' 18 = .int .i64 (bstF (decide (kind = 1)) (fitP g w l kind T a) (-1) (C.take j)) → t' 19 = .int .i64 j → SlL eSy 2 h' n2 n' (t' 20) (q.right ++ T.map (fun x : Lt => x.1)) → K t' h' n' := by
                    intro t' h' n' s0 s1 s2 s3 s4 s5 s6 s7
                    refine hK _ _ _ ?_
                    clear hK K
                    have hc' : h' bc = some (.cells (C.map eIn)) := by rw [s1 bc (by omega)]; exact j4
                    have hs' : ∀ y, y < n + 8 → h' y = H y := fun y hy => by rw [s1 y (by omega)]; exact j5 y hy
                    have h0' : h' 0 = some (.cells [eGr g]) := by rw [hs' 0 (by omega)]; exact hH0
                    have s2' := s2
                    obtain ⟨u1, u2, u3, u8, u9, u10⟩ := s2'
                    have s3' := s3
                    obtain ⟨u11, u14, u15⟩ := s3'
                    have hrowf : rf true 6 h' (t' 20) = some (.ro ((q.right ++ T.map (fun x : Lt => x.1)).map eSy)) := s7.frz (d := 4) fun x _ => by simp [rfs, rf, eSy]
                    refine W.rseq (k := 13) rfl fun K hK => ?_
                    simp only [go_sem, u1, u3, u8, u9, u15, h0']
                    refine VCall.frzq (as' := [.ro ((q.right ++ T.map (fun x : Lt => x.1)).map eSy), .ro (w.map eIn), .int .i64 (a : Nat), .ro (e3 M N N (spanF g w)), .ro (e3 (2 * M) N N (spanF (wildG g) w)), .int .i64 g.nons]) 7 (frzA hrowf) hpf ?_
                    simp only [go_sem]
                    refine hK _ _ _ ?_
                    first | clear hK K | clear hK | skip
                    obtain ⟨bb, hbb⟩ : ∃ bb, bb = bstF (decide (kind = 1)) (fitP g w l kind T a) (-1) (C.take j) := ⟨_, rfl⟩
                    rw [htkj, bst_app, ← hbb] at nx26
                    rw [← hbb] at s5
                    refine W.rseq (k := 17) rfl fun K hK => ?_
                    have cnd29 : ∀ (t' : Fr) (n' : Nat), bc < n' → t' 23 = .bool (fitP g w l kind T a ci) → (t' 1 = .ro (w.map eIn) ∧ t' 2 = .int .i64 kind ∧ t' 3 = .ptr 0 0 0 ∧ t' 8 = .ro (e3 M N N (spanF g w)) ∧ t' 9 = .ro (e3 (2 * M) N N (spanF (wildG g) w)) ∧ t' 10 = .ro ((ranksL g true).map eFc)) → (t' 11 = .sl b off (T.length + 1) 2 ∧ t' 14 = v14 ∧ t' 15 = .int .i64 (a : Nat)) → t' 17 = .sl bc 0 C.length 1 → t' 18 = .int .i64 bb → t' 19 = .int .i64 j → K t' h' n' := by
                      intro t' n' v0 v1 v2 v3 v4 v5 v6
                      refine hK _ _ _ ?_
                      clear hK K
                      have v2' := v2
                      obtain ⟨y1, y2, _, _, _, _⟩ := v2'
                      cases hfc : fitP g w l kind T a ci with
                      | false =>
                        rw [hfc] at v1 nx26
                        refine W.rseq (k := 9) rfl fun K hK => ?_
                        simp only [go_sem, v1]
                        refine hK _ _ _ ?_
                        clear hK K
                        refine W.condF (by simp only [go_sem]) ?_
                        refine W.skip ?_
                        simp only [go_sem]
                        exact nx26 _ _ _ (by omega) hc' hs' v2 v3 v4 v5 v6
                      | true =>
                        rw [hfc] at v1 nx26
                        by_cases hb0 : bb < 0
                        · rw [decide_eq_true hb0] at nx26
                          refine W.rseq (k := 9) rfl fun K hK => ?_
                          simp only [go_sem, v1, v5, decide_eq_true hb0]
                          refine hK _ _ _ ?_
                          clear hK K
                          refine W.condT (by simp only [go_sem]) ?_
                          refine W.region (k := 5) rfl ?_
                          simp only [go_sem, v4, v6, hc', hmj, show (j : Int) < (C.length : Int) by omega]
                          exact nx26 _ _ _ (by omega) hc' hs' v2 v3 v4 rfl v6
                        · rw [decide_eq_false hb0] at nx26
                          by_cases hk1 : kind = 1
                          · rw [decide_eq_true hk1] at nx26
                            refine W.rseq (k := 9) rfl fun K hK => ?_
                            simp only [go_sem, v1, v5, decide_eq_false hb0, y2, decide_eq_true hk1]
                            refine hK _ _ _ ?_
                            clear hK K
                            refine W.condT (by simp only [go_sem]) ?_
                            refine W.region (k := 5) rfl ?_
                            simp only [go_sem, v4, v6, hc', hmj, show (j : Int) < (C.length : Int) by omega]
                            exact nx26 _ _ _ (by omega) hc' hs' v2 v3 v4 rfl v6
                          · rw [decide_eq_false hk1] at nx26
                            refine W.rseq (k := 9) rfl fun K hK => ?_
                            simp only [go_sem, v1, v5, decide_eq_false hb0, y2, decide_eq_false hk1]
                            refine hK _ _ _ ?_
                            clear hK K
                            refine W.condF (by simp only [go_sem]) ?_
                            refine W.skip ?_
                            simp only [go_sem]
                            exact nx26 _ _ _ (by omega) hc' hs' v2 v3 v4 v5 v6
                    clear hK nx26
                    by_cases hk2 : kind = 2
                    · rw [if_pos hk2] at hfit
                      simp only [go_sem, u2, decide_eq_false (show ¬ kind < 2 by omega), decide_eq_true hk2]
                      exact cnd29 _ _ (by omega) (by rw [← hfit]; rfl) s2 s3 s4 s5 s6
                    · rw [if_neg hk2] at hfit
                      have hgF : (e1 N F)[w.length]? = some [.bool (F w.length)] := e1_get (by omega)
                      cases hFE : F w.length with
                      | true =>
                        rw [hFE] at hfit
                        simp only [go_sem, u2, decide_eq_true (show kind < 2 by omega), u1, List.length_map, hgF, hFE]
                        exact cnd29 _ _ (by omega) (by rw [← hfit]; rfl) s2 s3 s4 s5 s6
                      | false =>
                        rw [hFE] at hfit
                        simp only [go_sem, u2, decide_eq_true (show kind < 2 by omega), u1, List.length_map, hgF, hFE, decide_eq_false hk2]
                        exact cnd29 _ _ (by omega) (by rw [← hfit]; rfl) s2 s3 s4 s5 s6
                  clear hK nx26
                  have c2' : (es.drop (off + 1)).take T.length = (T.map (fun x : Lt => x.1)).map eSy := c2
                  have hlo : off + 1 + T.length ≤ es.length := by omega
                  refine W.draw (k := 15) rfl ?_
                  have hlo2 : off + (1 + T.length) ≤ es.length := by omega
                  have hn210 : (n2 ≤ n2 + 10) = True := eq_true (by omega)
                  have hn210' : (n2 + 4 ≤ n2 + 14) = True := eq_true (by omega)
                  have hne0 : (∀ e : List AV, e ∈ ([] : List (List AV)) → e.length = 2) = True := by simp
                  have sm27 : ∀ (y : Nat), y < n2 → ∀ k, ¬ y = n2 + k := fun y hy k => by omega
                  by_cases hT0 : T = []
                  · rw [hT0, List.length_nil, Nat.zero_add] at d11
                    have hTm : T.map (fun x : Lt => x.1) = [] := by rw [hT0]; rfl
                    by_cases hr0 : q.right = []
                    · have hie : (q.right.map eSy).isEmpty = true := by rw [hr0]; rfl
                      simp only [go_sem, d3, h20, d14, j8, j10, j4, hmj, hq, d11, zb2, z02, zc2, lb2, lb3, l02, l03, lc2, lc3, h2b, if_true, if_false, and_false, Nat.lt_irrefl, show (j : Int) < (C.length : Int) by omega, len_map (e := eSy) (sz := 2) (fun x => rfl), hne0, List.isEmpty_nil, hie, hlo2, hn210, hn210', Nat.le_refl, and_self, show ¬ (1 : Nat) = 0 by omega, Bool.false_eq_true, List.length_map]
                      refine ⟨by kernel_rfl, ?_⟩
                      exact nx28 _ _ _ (by omega) (fun y hy => rfl) j6 j7 j8 j9 j10 (.inl ⟨by rw [hTm, hr0]; rfl, rfl⟩)
                    · have hie : (q.right.map eSy).isEmpty = false := by
                        rw [List.isEmpty_eq_false_iff]
                        exact fun e => hr0 (List.map_eq_nil_iff.1 e)
                      simp only [go_sem, d3, h20, d14, j8, j10, j4, hmj, hq, d11, zb2, z02, zc2, lb2, lb3, l02, l03, lc2, lc3, h2b, if_true, if_false, and_false, Nat.lt_irrefl, show (j : Int) < (C.length : Int) by omega, len_map (e := eSy) (sz := 2) (fun x => rfl), hne0, List.isEmpty_nil, hie, hlo2, hn210, hn210', Nat.le_refl, and_self, show ¬ (1 : Nat) = 0 by omega, Bool.false_eq_true, List.length_map, List.length_nil, Nat.add_zero, List.append_nil, show q.right.length * 16 ≤ 140737488355328 by omega]
                      refine ⟨by kernel_rfl, ?_⟩
                      refine nx28 _ _ _ (by omega) (fun y hy => by simp only [go_sem, sm27 y hy]) j6 j7 j8 j9 j10 (.inr ⟨n2 + 17, by rw [hTm, List.append_nil]; rfl, by omega, by omega, ?_⟩)
                      rw [hTm, List.append_nil]
                      simp only [go_sem]
                  · rw [← List.map_eq_nil_iff (f := fun x : Lt => x.1)] at hT0
                    have hieT : ((T.map (fun x : Lt => x.1)).map eSy).isEmpty = false := by
                      rw [List.isEmpty_eq_false_iff]
                      exact fun e => hT0 (List.map_eq_nil_iff.1 e)
                    have hT1 : ¬ (1 = T.length + 1) := fun e => hT0 (by rw [List.length_eq_zero_iff.1 (show T.length = 0 by omega)]; rfl)
                    by_cases hr0 : q.right = []
                    · have hie : (q.right.map eSy).isEmpty = true := by rw [hr0]; rfl
                      simp only [go_sem, d3, h20, d14, j8, j10, j4, hmj, hq, d11, zb2, z02, zc2, lb2, lb3, l02, l03, lc2, lc3, h2b, if_true, if_false, and_false, Nat.lt_irrefl, show (j : Int) < (C.length : Int) by omega, len_map (e := eSy) (sz := 2) (fun x => rfl), hne0, List.isEmpty_nil, hie, hlo2, hn210, hn210', Nat.le_refl, and_self, show ¬ (1 : Nat) = 0 by omega, Bool.false_eq_true, List.length_map, hT1, hieT, c2', hlo, Nat.add_sub_cancel, show 1 ≤ T.length + 1 by omega, show T.length * 16 ≤ 140737488355328 by omega]
                      refine ⟨by kernel_rfl, ?_⟩
                      refine nx28 _ _ _ (by omega) (fun y hy => by simp only [go_sem, sm27 y hy]) j6 j7 j8 j9 j10 (.inr ⟨n2 + 17, by rw [hr0, List.nil_append, List.length_map]; rfl, by omega, by omega, ?_⟩)
                      rw [hr0, List.nil_append]
                      simp only [go_sem]
                    · have hie : (q.right.map eSy).isEmpty = false := by
                        rw [List.isEmpty_eq_false_iff]
                        exact fun e => hr0 (List.map_eq_nil_iff.1 e)
                      simp only [go_sem, d3, h20, d14, j8, j10, j4, hmj, hq, d11, zb2, z02, zc2, lb2, lb3, l02, l03, lc2, lc3, h2b, if_true, if_false, and_false, Nat.lt_irrefl, show (j : Int) < (C.length : Int) by omega, len_map (e := eSy) (sz := 2) (fun x => rfl), hne0, List.isEmpty_nil, hie, hlo2, hn210, hn210', Nat.le_refl, and_self, show ¬ (1 : Nat) = 0 by omega, Bool.false_eq_true, List.length_map, hT1, hieT, c2', hlo, Nat.add_sub_cancel, show 1 ≤ T.length + 1 by omega, show q.right.length * 16 ≤ 140737488355328 by omega, show (q.right.length + T.length) * 16 ≤ 140737488355328 by omega, show ¬ (q.right.length + T.length ≤ q.right.length ∧ q.right.length < q.right.length) by omega, Nat.zero_add]
                      refine ⟨by kernel_rfl, ?_⟩
                      refine nx28 _ _ _ (by omega) (fun y hy => by simp only [go_sem, sm27 y hy]) j6 j7 j8 j9 j10 (.inr ⟨n2 + 17, by rw [List.length_append, List.length_map]; rfl, by omega, by omega, ?_⟩)
                      rw [List.map_append]
                      simp only [go_sem]
                · refine W.exit ?_
                  simp only [go_sem]
                  have hj : j = C.length := by simp at hc; omega
                  rw [hj, List.take_length, hbst] at j9
                  exact nx32 _ _ _ (by omega) j5 j6 j7 j9
              clear hK
              have hCl : (prodsL g ξ).length < 2 ^ 40 := Nat.lt_of_le_of_lt (prodsJ_len _) (by omega)
              have hfin : ∀ (t' : Fr) (n' : Nat), t' = t' → n' = n' → True := fun _ _ _ _ => trivial
              by_cases hk2 : kind = 2
              · by_cases haw : a = w.length
                · obtain ⟨fc, hfc⟩ := get_some (show ξ < (ranksL g true).length by have := (ranks_fin (terms := true) hr).1; omega)
                  refine W.rseq (k := 8) rfl fun K hK => ?_
                  simp only [go_sem, d2, decide_eq_true hk2, p4, d1, List.length_map, decide_eq_true (show (a : Int) = (w.length : Int) by omega)]
                  refine hK _ _ _ ?_
                  clear hK K
                  refine W.condT (by simp only [go_sem]) ?_
                  have zc6 : ¬ n + 6 = n' + 3 := by omega
                  refine W.region (k := 8) rfl ?_
                  simp only [go_sem, d10, p5, hH6, zc6, hfc, eFc]
                  refine nx21 _ _ _ [fc.2] (n' + 19) (by omega) (by omega) (by simp only [go_sem]; rfl) (fun y hy => by simp only [go_sem, show ¬ y = n' + 3 by omega, show ¬ y = n' + 19 by omega]) ?_ (by simp) ⟨d1, d2, d3, d8, d9, d10⟩ ⟨p2, p3, p4⟩ rfl
                  rw [canR, if_pos ⟨hk2, haw⟩, Int.toNat_natCast, List.getD_eq_getElem?_getD, hfc]; rfl
                · refine W.rseq (k := 8) rfl fun K hK => ?_
                  simp only [go_sem, d2, decide_eq_true hk2, p4, d1, List.length_map, decide_eq_false (show ¬ (a : Int) = (w.length : Int) by omega)]
                  refine hK _ _ _ ?_
                  clear hK K
                  refine W.condF (by simp only [go_sem]) ?_
                  refine W.skip ?_
                  simp only [go_sem]
                  refine nx21 _ _ _ (prodsL g ξ) (n' + 3) (by omega) (by omega) (by simp only [go_sem]) (fun y hy => sm0 _ y hy) ?_ hCl ⟨d1, d2, d3, d8, d9, d10⟩ ⟨p2, p3, p4⟩ rfl
                  rw [canR, if_neg (fun e => haw e.2)]
              · refine W.rseq (k := 8) rfl fun K hK => ?_
                simp only [go_sem, d2, decide_eq_false hk2]
                refine hK _ _ _ ?_
                clear hK K
                refine W.condF (by simp only [go_sem]) ?_
                refine W.skip ?_
                simp only [go_sem]
                refine nx21 _ _ _ (prodsL g ξ) (n' + 3) (by omega) (by omega) (by simp only [go_sem]) (fun y hy => sm0 _ y hy) ?_ hCl ⟨d1, d2, d3, d8, d9, d10⟩ ⟨p2, p3, p4⟩ rfl
                rw [canR, if_neg (fun e => hk2 e.1)]
            clear hK
            have fin18 : ∀ (t' : Fr) (n' : Nat), True := fun _ _ => trivial
            rcases hov with ⟨ho0, rfl⟩ | ⟨b', rfl, _, _, _⟩
            · have hol : ¬ out.length = 2000 := by rw [ho0]; decide
              refine W.rseq (k := 3) rfl fun K hK => ?_
              simp only [go_sem, ← hv14]
              refine hK _ _ _ ?_
              clear hK K
              refine W.condF (by simp only [go_sem]) ?_
              refine W.skip ?_
              simp only [go_sem]
              exact nx18 _ _ (by omega) hol i14 e1' hv14.symm i15 rfl
            · by_cases hol : out.length = 2000
              · refine W.rseq (k := 3) rfl fun K hK => ?_
                simp only [go_sem, ← hv14, decide_eq_true (show (out.length : Int) = 2000 by omega)]
                refine hK _ _ _ ?_
                clear hK K
                refine W.condT (by simp only [go_sem]) ?_
                refine W.rseq (k := 2) rfl fun K hK => ?_
                simp only [go_sem]
                refine hK _ _ _ ?_
                clear hK K
                refine W.ret ?_
                simp only [go_sem]
                rw [run_big hx hol] at i3
                rw [← i3]
                exact ⟨.nils, rfl, .inl ⟨rfl, rfl⟩⟩
              · refine W.rseq (k := 3) rfl fun K hK => ?_
                simp only [go_sem, ← hv14, decide_eq_false (show ¬ (out.length : Int) = 2000 by omega)]
                refine hK _ _ _ ?_
                clear hK K
                refine W.condF (by simp only [go_sem]) ?_
                refine W.skip ?_
                simp only [go_sem]
                exact nx18 _ _ (by omega) hol i14 e1' hv14.symm i15 rfl
    have wr : ∀ b : Bool, (b = true ↔ Ok g w (kind = 2) [⟨true, g.start⟩] 0) → True := fun _ _ => trivial
    by_cases hk2 : kind = 2
    · rw [if_pos hk2] at hfit0
      simp only [go_sem, decide_eq_false (show ¬ kind < 2 by omega), decide_eq_true hk2]
      exact cnd _ o0 _ _ rfl hfit0 ⟨rfl, rfl, rfl, rfl, rfl, rfl⟩ rfl (by simp only [go_sem]) (by simp only [go_sem]) (by omega)
    · rw [if_neg hk2] at hfit0
      cases hF0 : F0 w.length
      · rw [hF0] at hfit0
        simp only [go_sem, decide_eq_true (show kind < 2 by omega), List.length_map, hgE, hF0]
        exact cnd _ false _ _ rfl hfit0 ⟨rfl, rfl, rfl, rfl, rfl, rfl⟩ rfl (by simp only [go_sem]) (by simp only [go_sem]) (by omega)
      · rw [hF0] at hfit0
        simp only [go_sem, decide_eq_true (show kind < 2 by omega), List.length_map, hgE, hF0, decide_eq_false hk2]
        exact cnd _ true _ _ rfl hfit0 ⟨rfl, rfl, rfl, rfl, rfl, rfl⟩ rfl (by simp only [go_sem]) (by simp only [go_sem]) (by omega)
  obtain ⟨r, h', n', hb, v, rfl, ho⟩ := fin
  refine ⟨_, h', n', hb, 7, fun fr => ?_⟩
  have h1 : rf fr 5 h' v = some (.ro ((leadL g w kind l).2.map eIn)) := ho.frz (d := 3) fun x _ => by simp [rfs, rf, eIn]
  unfold rf
  simp only [rfs, List.mapM_cons, h1]
  rfl

end Go.Av

