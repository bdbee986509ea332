/-
  Layer 17, package lead: the leader in memory; what is left, laid. Conditions: none.
-/
import Derived.Test.YtiiogleijmcccaaZ2
namespace Go.Av
open Go.Proofs
set_option maxRecDepth 100000
set_option linter.unusedSimpArgs false
set_option linter.unusedVariables false

def layL (w : List Int) (rows : List (Nat → Nat)) (kind : Int) (T : List Lt) : List Sy → List Lt
  | [] => T
  | s :: r => let L := layL w rows kind T r; (s, aheadN w rows kind s (lastG w L)) :: L

theorem lay_cons {w : List Int} {rows : List (Nat → Nat)} {kind : Int} {T : List Lt} {s : Sy} {r : List Sy} : layL w rows kind T (s :: r) = (s, aheadN w rows kind s (lastG w (layL w rows kind T r))) :: layL w rows kind T r := rfl

theorem lay_len {w : List Int} {rows : List (Nat → Nat)} {kind : Int} {T : List Lt} : ∀ r : List Sy, (layL w rows kind T r).length = r.length + T.length
  | [] => by rw [layL, List.length_nil, Nat.zero_add]
  | s :: r => by rw [lay_cons, List.length_cons, lay_len r, List.length_cons]; omega

/-- What is left may be. -/
def GdT (T : List Lt) : Prop := ∀ x ∈ T, x.2 < 2 ^ 32 ∧ (x.1.non = true → 0 ≤ x.1.n ∧ x.1.n < 24)

theorem aheadN_lt {w : List Int} {rows : List (Nat → Nat)} {kind : Int} {s : Sy} {good : Nat} (h : rows.length ≤ 30) : aheadN w rows kind s good < 2 ^ 32 := aheadJ_lt _ (by omega)

theorem GdT.last {w : List Int} {T : List Lt} (h : GdT T) (hw : w.length < 32) : lastG w T < 2 ^ 32 := by
  cases T with
  | nil => exact Nat.pow_lt_pow_right (by decide) hw
  | cons x T => exact (h x (by simp)).1

theorem GdT.lay {w : List Int} {rows : List (Nat → Nat)} {kind : Int} {T : List Lt} (h : GdT T) (hr : rows.length ≤ 30) : ∀ r : List Sy, (∀ s ∈ r, s.non = true → 0 ≤ s.n ∧ s.n < 24) → GdT (layL w rows kind T r)
  | [], _ => h
  | s :: r, hs => fun x hx => by
    rw [lay_cons] at hx
    rcases List.mem_cons.1 hx with rfl | hx
    · exact ⟨aheadN_lt hr, hs s (by simp)⟩
    · exact GdT.lay h hr r (fun y hy => hs y (by simp [hy])) x hx

/-- A leader in memory. -/
structure LM (bR : Nat) (g : Gr) (w : List Int) (rows : List (Nat → Nat)) (kind : Int) (h : Heap) (n : Nat) (T : List Lt) (a : Nat) (out : List Int) (tv ov : AV) : Prop where
  lt : bR < n
  root : h bR = some (.cells [eLd g w rows kind tv a ov])
  todo : (T = [] ∧ tv = .nils) ∨ ∃ b es, tv = .sl b 0 T.length 3 ∧ bR < b ∧ b < n ∧ h b = some (.cells es) ∧ T.length ≤ es.length ∧ es.take T.length = T.reverse.map eTd
  outs : SlL eIn 1 h (bR + 1) n ov out
  apart : ∀ b k b' k', tv = .sl b 0 k 3 → ov = .sl b' 0 k' 1 → b ≠ b'

theorem LM.next {bR : Nat} {g : Gr} {w : List Int} {rows : List (Nat → Nat)} {kind : Int} {h h' : Heap} {n n' : Nat} {T : List Lt} {a : Nat} {out : List Int} {tv ov : AV} (m : LM bR g w rows kind h n T a out tv ov) (hh : ∀ x, x < n → h' x = h x) (hn : n ≤ n') : LM bR g w rows kind h' n' T a out tv ov := by
  obtain ⟨m1, m2, m3, m4, m5⟩ := m
  refine ⟨by omega, (hh _ m1).trans m2, ?_, m4.next rfl (fun x _ hx => hh x hx) hn (Nat.le_refl _), m5⟩
  rcases m3 with m3 | ⟨b, es, k1, k2, k3, k4, k5, k6⟩
  · exact .inl m3
  · exact .inr ⟨b, es, k1, k2, by omega, (hh b k3).trans k4, k5, k6⟩

theorem LM.frz {bR : Nat} {g : Gr} {w : List Int} {rows : List (Nat → Nat)} {kind : Int} {h : Heap} {n : Nat} {T : List Lt} {a : Nat} {out : List Int} {tv ov : AV} (m : LM bR g w rows kind h n T a out tv ov) :
    rf true 6 h (.ptr bR 0 0) = some (.rp (eLd g w rows kind (.ro (T.reverse.map eTd)) a (.ro (out.map eIn))) 0) := by
  obtain ⟨m1, m2, m3, m4, m5⟩ := m
  have e2 : rf true 4 h ov = some (.ro (out.map eIn)) := m4.frz (d := 2) fun x _ => by simp [rfs, rf, eIn]
  have e1 : rf true 4 h tv = some (.ro (T.reverse.map eTd)) := by
    rcases m3 with ⟨rfl, rfl⟩ | ⟨b, es, rfl, k2, k3, k4, k5, k6⟩
    · rfl
    · have he : rfe true 3 h (T.reverse.map eTd) = some (T.reverse.map eTd) := rfe_map fun x _ => by simp [rfs, rf, eTd]
      unfold rf
      simp only [k4, List.drop_zero, k6, he, Nat.zero_add, if_pos k5]
  have e3 : rfs true 5 h (eLd g w rows kind tv a ov) = some (eLd g w rows kind (.ro (T.reverse.map eTd)) a (.ro (out.map eIn))) := by
    simp only [rfs, eLd, List.mapM_cons, e1, e2]
    rfl
  unfold rf
  simp only [m2, List.getElem?_cons_zero, e3]

theorem f149' (l : List Lt) (k b : Nat) (es : List (List AV)) (h : Heap) (n : Nat) (hk : l.length = k) (hb : b < n) (hh : h b = some (.cells es)) (hle : k ≤ es.length) (htk : es.take k = l.map eTd) (hl : k < 2 ^ 40) : FH pg Tq 149 [.sl b 0 k 3] h n fun r h' n' => n ≤ n' ∧ (∀ x, x < n → h' x = h x) ∧ SlL eTd 3 h' n n' r l := by
  subst hk
  exact f149 l b es h n hb hh hle htk hl

set_option maxHeartbeats 16000000 in
theorem f148 (bR : Nat) (g : Gr) (w : List Int) (rows : List (Nat → Nat)) (kind : Int) (h : Heap) (n : Nat) (T : List Lt) (a : Nat) (out : List Int) (tv ov : AV) (m : LM bR g w rows kind h n T a out tv ov) (hsl : tv ≠ .nils) (p : Pr)
    (hw : rows.length = w.length + 1) (hr : rows.length ≤ 30) (hrw : RwIn rows) (hT : T.length < 2 ^ 30) (hgd : GdT T) (hp : p.right.length < 2 ^ 20) (hs : ∀ s ∈ p.right, s.non = true → 0 ≤ s.n ∧ s.n < 24) :
    FH pg Tq 148 [.ptr bR 0 0, .agg (ePr p)] h n fun r h' n' => n ≤ n' ∧ (∀ x, x < n → h' x = h x) ∧ SlL eTd 3 h' n n' r (layL w rows kind T p.right).reverse := by
  have m' := m
  obtain ⟨m1, m2, m3, m4, m5⟩ := m'
  rcases m3 with ⟨_, e⟩ | ⟨b, es, rfl, k2, k3, k4, k5, k6⟩
  · exact absurd e hsl
  have zR : ∀ j, ¬ bR = n + j := fun j => by omega
  have zR' : ¬ bR = n := by omega
  have zb : ∀ j, ¬ b = n + j := fun j => by omega
  have zb' : ¬ b = n := by omega
  refine FH.of (N := 42) (rs := #[.tmp 4]) Try.func148 rfl rfl (of_decide_eq_true rfl) rfl (by decide) ?_
  refine W.rseq (k := 2) rfl fun K hK => ?_
  simp only [go_sem]
  refine hK _ _ _ ?_
  clear hK K
  refine W.rseq (k := 6) rfl fun K hK => ?_
  simp only [go_sem, m2, eLd, zR, zR']
  refine VCall.heap (f149' T.reverse T.length b es _ _ (by simp) (by omega) (by simp only [go_sem, zb, zb', k4]) k5 k6 (by omega)) fun r1 h1 n1 ⟨c1, c2, c3⟩ => ?_
  simp only [go_sem]
  refine hK _ _ _ ?_
  first | clear hK K | clear hK | skip
  have hf1 : ∀ x, x < n → h1 x = h x := fun x hx => by rw [c2 x (by omega)]; simp only [go_sem, show ∀ j, ¬ x = n + j from fun j => by omega, show ¬ x = n by omega]
  have hp1 : h1 n = some (.cells [ePr p]) := by rw [c2 n (by omega)]; simp only [go_sem]
  have M1 := m.next hf1 (show n ≤ n1 by omega)
  refine W.rseq (k := 3) rfl fun K hK => ?_
  simp only [go_sem]
  refine VCall.frzq (as' := [.rp (eLd g w rows kind (.ro (T.reverse.map eTd)) a (.ro (out.map eIn))) 0]) 7 ?_ (f150 g w rows kind T a _ (by omega) (by omega)) ?_
  · simp only [rfs, List.mapM_cons, M1.frz]
    rfl
  simp only [go_sem]
  refine hK _ _ _ ?_
  first | clear hK K | clear hK | skip
  have C3 : SlL eTd 3 h1 (n + 1) n1 r1 T.reverse := c3.next rfl (fun x _ _ => rfl) (Nat.le_refl _) (by omega)
  have hn1 : n < n1 := by omega
  clear c1 c2 c3 m2 M1 k2 k3 k4 k5 k6 zb zb' zR zR'
  have hw7 : IntKind.wrap .i64 ((p.right.length : Int) - 1) = (p.right.length : Int) - 1 := wrap64 (by omega) (by omega)
  refine W.seqk fun K hK => ?_
  refine W.rseq (k := 5) rfl fun K hK => ?_
  simp only [go_sem, hp1, ePr, List.length_map, hw7]
  refine hK _ _ _ ?_
  clear hK K
  have nx0 : ∀ (t' : Fr) (h' : Heap) (n' : Nat), n < n' → (∀ x, x < n → h' x = h x) → SlL eTd 3 h' (n + 1) n' (t' 5) (layL w rows kind T p.right).reverse → K t' h' n' := by
    intro t' h' n' e1 e2 e3
    refine hK _ _ _ ?_
    clear hK K
    refine W.rseq (k := 2) rfl fun K hK => ?_
    simp only [go_sem]
    refine hK _ _ _ ?_
    clear hK K
    refine W.ret ?_
    simp only [go_sem]
    exact ⟨by omega, e2, e3.next rfl (fun x _ _ => rfl) (by omega) (by omega)⟩
  clear hK
  refine W.block (W.while (fun m t h2 n2 => ∃ k : Nat, m = k ∧ k ≤ p.right.length ∧ n < n2 ∧ h2 n = some (.cells [ePr p]) ∧ (∀ x, x < n → h2 x = h x) ∧ SlL eTd 3 h2 (n + 1) n2 (t 5) (layL w rows kind T (p.right.drop k)).reverse ∧ (t 0 = .ptr bR 0 0 ∧ t 3 = .ptr n 0 0) ∧ t 6 = .int .u32 (lastG w (layL w rows kind T (p.right.drop k)) : Nat) ∧ t 7 = .int .i64 ((k : Int) - 1)) p.right.length
    ⟨p.right.length, rfl, Nat.le_refl _, by omega, hp1, hf1, by rw [List.drop_length]; exact C3.next rfl (fun x _ _ => rfl) (by omega) (Nat.le_refl _), ⟨rfl, rfl⟩, by rw [List.drop_length]; rfl, rfl⟩ fun mm t h2 n2 ⟨k, i1, i2, i3, i4, i5, i6, i7, i8, i9⟩ => ?_)
  obtain ⟨a0, a3⟩ := i7
  refine W.seq ?_
  refine W.rseq (k := 2) rfl fun K hK => ?_
  simp only [go_sem, i9]
  refine hK _ _ _ ?_
  clear hK K
  cases k with
  | zero =>
    refine W.condF (by simp only [go_sem]; rfl) ?_
    refine W.exit ?_
    simp only [go_sem]
    rw [List.drop_zero] at i6
    exact nx0 _ _ _ (by omega) i5 (i6.next rfl (fun x _ _ => rfl) (by omega) (Nat.le_refl _))
  | succ i =>
    have e9 : t 7 = .int .i64 (i : Int) := by rw [i9]; congr 1; omega
    clear i9
    refine W.condT (by simp only [go_sem]; exact congrArg (fun b => some (AV.bool b)) (decide_eq_true (by omega))) ?_
    refine W.skip ?_
    simp only [go_sem]
    obtain ⟨s, hsi⟩ := get_some (show i < p.right.length by omega)
    have hsm := hs s (List.mem_of_getElem? hsi)
    have hdr : p.right.drop i = s :: p.right.drop (i + 1) := by
      rw [List.drop_eq_getElem_cons (by omega)]
      congr 1
      exact (List.getElem_eq_iff _).2 hsi
    obtain ⟨L, hL⟩ : ∃ L, L = layL w rows kind T (p.right.drop (i + 1)) := ⟨_, rfl⟩
    have hGL : GdT L := by rw [hL]; exact hgd.lay hr _ fun y hy => hs y (List.mem_of_mem_drop hy)
    have hLl : L.length ≤ 2 ^ 31 := by rw [hL, lay_len, List.length_drop]; omega
    rw [← hL] at i6 i8
    obtain ⟨G, hG⟩ : ∃ G, G = aheadN w rows kind s (lastG w L) := ⟨_, rfl⟩
    have hlay : layL w rows kind T (p.right.drop i) = (s, G) :: L := by rw [hdr, lay_cons, ← hL, ← hG]
    have zn : ∀ j, ¬ n = n2 + j := fun j => by omega
    refine W.seqk fun K hK => ?_
    have nx : ∀ (t' : Fr) (h' : Heap) (n' : Nat), n < n' → h' n = some (.cells [ePr p]) → (∀ x, x < n → h' x = h x) → SlL eTd 3 h' (n + 1) n' (t' 5) ((s, G) :: L).reverse → (t' 0 = .ptr bR 0 0 ∧ t' 3 = .ptr n 0 0) → t' 6 = .int .u32 (G : Nat) → t' 7 = .int .i64 (i : Int) → K t' h' n' := by
      intro t' h' n' e1 e2 e3 e4 e5 e6 e7
      refine hK _ _ _ ?_
      clear hK K
      refine W.region (k := 3) rfl ?_
      simp only [go_sem, e7]
      refine ⟨i, by omega, i, rfl, by omega, by omega, e2, e3, by rw [hlay]; exact e4.next rfl (fun x _ _ => rfl) (by omega) (Nat.le_refl _), e5, by rw [hlay]; exact e6, ?_⟩
      rw [wrap64 (by omega) (by omega)]
    clear hK
    have M2 := m.next i5 (show n ≤ n2 by omega)
    refine W.block ?_
    have hg32 : lastG w L < 2 ^ 32 := hGL.last (by omega)
    refine W.rseq (k := 9) rfl fun K hK => ?_
    simp only [go_sem, a0, a3, i4, ePr, hsi, e9, i8, zn]
    refine VCall.frzq (as' := [.rp (eLd g w rows kind (.ro (T.reverse.map eTd)) a (.ro (out.map eIn))) 0, .agg (eSy s), .int .u32 (lastG w L : Nat)]) 7 ?_ (f113 g w rows kind _ a _ s (lastG w L) hw hr hrw hg32 hsm) ?_
    · simp only [rfs, List.mapM_cons, M2.frz]
      rfl
    simp only [go_sem]
    refine hK _ _ _ ?_
    first | clear hK K | clear hK | skip
    rw [← hG]
    refine W.region (k := 11) rfl ?_
    rcases i6 with ⟨w0, w5⟩ | ⟨b2, w5, w1, w2, w3⟩
    · simp only [go_sem, w5, a3, i4, ePr, hsi, e9, zn, show (n2 ≤ n2 + 14) = True from eq_true (by omega), if_true, Nat.one_mul]
      have hL0 : L = [] := List.reverse_eq_nil_iff.1 w0
      refine nx _ _ _ (by omega) (by simp only [go_sem, zn, i4]) (fun x hx => by simp only [go_sem, show ∀ j, ¬ x = n2 + j from fun j => by omega]; exact i5 x hx) (.inr ⟨n2 + 20, by rw [hL0]; rfl, by omega, by omega, by rw [hL0]; simp only [go_sem]; rfl⟩) ⟨a0, a3⟩ rfl e9
    · have zb : ∀ j, ¬ b2 = n2 + j := fun j => by omega
      have tkL : (L.reverse.map eTd).take L.length = L.reverse.map eTd := List.take_of_length_le (by simp)
      simp only [go_sem, w5, w3, a3, i4, ePr, hsi, e9, zn, zb, List.length_reverse, List.length_map, and_false, if_false, if_true, tkL, show (L.length + 1) * 24 ≤ 140737488355328 by omega]
      refine nx _ _ _ (by omega) (by simp only [go_sem, zn, i4, show ¬ n = b2 by omega]) (fun x hx => by simp only [go_sem, show ∀ j, ¬ x = n2 + j from fun j => by omega, show ¬ x = b2 by omega]; exact i5 x hx) (.inr ⟨n2 + 20, by rw [List.length_reverse, List.length_cons]; rfl, by omega, by omega, by simp only [go_sem]; rw [List.reverse_cons, List.map_append]; rfl⟩) ⟨a0, a3⟩ rfl e9

end Go.Av

