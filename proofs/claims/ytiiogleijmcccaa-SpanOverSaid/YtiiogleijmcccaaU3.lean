/-
  Layer 13, package left: the next step. Conditions: none.
-/
import Derived.Test.YtiiogleijmcccaaU2
namespace Go.Av
open Go.Proofs
set_option maxRecDepth 100000
set_option linter.unusedSimpArgs false
set_option linter.unusedVariables false

/-- What next has found among the steps. -/
def Nx (T L : List Lf) (a : List Int) (non : Nat) (x : Lf) (is : Bool) : Prop :=
  (is = false → ∀ y ∈ T, y.frm = non → a.getD y.to (-1) < 0) ∧
  (is = true → x ∈ L ∧ x.frm = non ∧ 0 ≤ a.getD x.to (-1) ∧ ∀ y ∈ T, y.frm = non → 0 ≤ a.getD y.to (-1) → a.getD x.to (-1) ≤ a.getD y.to (-1))

theorem Nx.old {T L : List Lf} {a : List Int} {non : Nat} {x y : Lf} {is : Bool} (h : Nx T L a non x is) (hy : y.frm = non → a.getD y.to (-1) < 0 ∨ (is = true ∧ a.getD x.to (-1) ≤ a.getD y.to (-1))) : Nx (T ++ [y]) L a non x is := by
  refine ⟨fun e z hz hf => ?_, fun e => ⟨(h.2 e).1, (h.2 e).2.1, (h.2 e).2.2.1, fun z hz hf h0 => ?_⟩⟩
  · rcases List.mem_append.1 hz with hz | hz
    · exact h.1 e z hz hf
    · have hz := List.mem_singleton.1 hz
      subst hz
      rcases hy hf with h1 | ⟨h1, _⟩
      · exact h1
      · rw [e] at h1; cases h1
  · rcases List.mem_append.1 hz with hz | hz
    · exact (h.2 e).2.2.2 z hz hf h0
    · have hz := List.mem_singleton.1 hz
      subst hz
      rcases hy hf with h1 | ⟨_, h1⟩
      · omega
      · exact h1

theorem Nx.new {T L : List Lf} {a : List Int} {non : Nat} {x y : Lf} {is : Bool} (h : Nx T L a non x is) (hL : y ∈ L) (hf : y.frm = non) (h0 : 0 ≤ a.getD y.to (-1)) (hy : is = true → a.getD y.to (-1) ≤ a.getD x.to (-1)) : Nx (T ++ [y]) L a non y true := by
  refine ⟨fun e => (by cases e), fun _ => ⟨hL, hf, h0, fun z hz hzf hz0 => ?_⟩⟩
  rcases List.mem_append.1 hz with hz | hz
  · cases is
    · have := h.1 rfl z hz hzf; omega
    · have := (h.2 rfl).2.2.2 z hz hzf hz0
      have := hy rfl
      omega
  · rw [List.mem_singleton.1 hz]; exact Int.le_refl _

set_option maxHeartbeats 8000000 in
theorem f106 (g : Gr) (hr : right g = true) (a : List Int) (ha : a.length = g.nons.toNat) (non B lo : Nat) (h : Heap) (n : Nat) (lv : AV) (mb : Nat) (hS : StMem g lo h n lv mb) (hB : h B = some (.cells (a.map eIn))) (hBn : B < n) : FH pg Tq 106 [.int .i64 non, .sl B 0 g.nons.toNat 1, lv, .mp mb] h n fun res h' n' => n ≤ n' ∧ (∀ x, x < n → h' x = h x) ∧ ∃ x is, res = .tup [.agg (eLf x), .bool is] ∧ Nx (stepsG g) (stepsG g) a non x is := by
  obtain ⟨⟨hn1, hn2⟩, _, _, hp60, h5⟩ := right_in hr
  have hLin := steps_in hr
  obtain ⟨M, hM⟩ : ∃ M, M = g.nons.toNat := ⟨_, rfl⟩
  have hMn : g.nons = (M : Int) := by omega
  obtain ⟨L, hL⟩ : ∃ L, L = stepsG g := ⟨_, rfl⟩
  obtain ⟨s1, s2, s3, hUq, hLl, s4⟩ := hS
  rw [← hM] at hLin ha ⊢
  rw [← hL] at hLin s3 s4 hUq hLl ⊢
  obtain ⟨bb, hbb⟩ : ∃ bb, bb = n + 3 := ⟨_, rfl⟩
  have znb : ¬ n = bb := by omega
  refine FH.of (N := 59) (rs := #[.cell 8 134, .tmp 9]) Try.func106 rfl rfl (of_decide_eq_true rfl) rfl (by decide) ?_
  refine W.rseq (k := 2) rfl fun K hK => ?_
  simp only [go_sem]
  refine hK _ _ _ ?_
  clear hK K
  refine W.rseq (k := 4) rfl fun K hK => ?_
  simp only [go_sem]
  refine hK _ _ _ ?_
  clear hK K
  refine W.seqk fun K hK => ?_
  have nx0 : ∀ (t' : Fr) (h' : Heap) (n' : Nat) (x : Lf) (is : Bool), bb < n' → (∀ x, x < n → h' x = h x) → h' n = some (.cells [[.int .i64 0, .int .i64 0]]) → h' bb = some (.cells [eLf x]) → t' 8 = .ptr n 0 0 → t' 10 = .ptr bb 0 0 → t' 11 = .bool is → Nx L L a non x is → K t' h' n' := by
    intro t' h' n' x is e1 e2 e3 e4 e5 e6 e7 e8
    refine hK _ _ _ ?_
    refine W.rseq (k := 4) rfl fun K hK => ?_
    simp only [go_sem, e6, e4, e5, e3, e7]
    refine hK _ _ _ ?_
    clear hK K
    refine W.ret ?_
    simp only [go_sem, e5]
    refine ⟨by omega, fun y hy => by simp only [go_sem, show ¬ y = n by omega]; exact e2 y hy, x, is, rfl, e8⟩
  clear hK
  rw [← hbb]
  refine W.rseq (k := 3) rfl fun K hK => ?_
  have nx1 : ∀ (t' : Fr) (h' : Heap) (n' : Nat), bb < n' → (∀ x, x < n → h' x = h x) → h' n = some (.cells [[.int .i64 0, .int .i64 0]]) → h' bb = some (.cells [[.int .i64 0, .int .i64 0]]) → (t' 0 = .int .i64 non ∧ t' 1 = .sl B 0 M 1 ∧ t' 3 = .mp mb ∧ t' 8 = .ptr n 0 0 ∧ t' 10 = .ptr bb 0 0 ∧ t' 16 = lv ∧ t' 17 = .int .i64 L.length) → t' 11 = .bool false → t' 18 = .int .i64 0 → K t' h' n' := by
    intro t' h' n' e1 e2 e3 e4 e5 e6 e7
    refine hK _ _ _ ?_
    clear hK K
    refine W.block (W.while (fun m t h1 n1 => ∃ (j : Nat) (is : Bool) (x : Lf), m = L.length - j ∧ j ≤ L.length ∧ Nx (L.take j) L a non x is ∧ bb < n1 ∧ (∀ x, x < n → h1 x = h x) ∧ h1 n = some (.cells [[.int .i64 0, .int .i64 0]]) ∧ h1 bb = some (.cells [eLf x]) ∧ (t 0 = .int .i64 non ∧ t 1 = .sl B 0 M 1 ∧ t 3 = .mp mb ∧ t 8 = .ptr n 0 0 ∧ t 10 = .ptr bb 0 0 ∧ t 16 = lv ∧ t 17 = .int .i64 L.length) ∧ t 11 = .bool is ∧ t 18 = .int .i64 j) L.length
      ⟨0, false, ⟨0, 0, 0, 0⟩, by simp, by simp, ⟨(fun _ y hy => by cases hy), (fun e => by cases e)⟩, e1, e2, e3, e4, e5, e6, e7⟩ fun m t h1 n1 ⟨j, is, bs, m1, m2, m3, m4, m5, m6, m7, m8, m9, m10⟩ => ?_)
    clear e5 e6 e7
    have m8' := m8
    obtain ⟨a0, a1, a3, a8, a10, a16, a17⟩ := m8'
    refine W.rseq (k := 1) rfl fun K hK => ?_
    simp only [go_sem, a17, m10]
    refine hK _ _ _ ?_
    clear hK K
    refine W.seq ?_
    refine W.cond rfl (fun hc2 => ?_) fun hc2 => ?_
    · refine W.skip ?_
      simp only [go_sem]
      have hj : j < L.length := by simp at hc2; omega
      obtain ⟨x, hx⟩ := get_some hj
      have hxm := List.mem_of_getElem? hx
      rcases s4 with ⟨e, _⟩ | ⟨b, hb, b1, b2, b3⟩
      · rw [e] at hj; cases hj
      have hbx := m5 b b2
      rw [b3] at hbx
      have hmbx := m5 mb s2
      rw [s3] at hmbx
      have hBx := m5 B hBn
      rw [hB] at hBx
      obtain ⟨hfx, htx⟩ := hLin x hxm
      have hfy := find_yes L hUq hxm
      have hky := key_lf (x := x)
      have hkb := key_lf (x := bs)
      have el : ∀ x : Lf, eLf x = [.int .i64 x.prod, .int .i64 x.dot] := fun x => rfl
      rw [el] at hfy hky hkb
      obtain ⟨d, hd⟩ : ∃ d, d = a.getD x.to (-1) := ⟨_, rfl⟩
      obtain ⟨f, hf⟩ : ∃ f, f = a.getD bs.to (-1) := ⟨_, rfl⟩
      have had : a[x.to]? = some d := by rw [hd]; exact getI_some (by omega)
      have ht1 : L.take (j + 1) = L.take j ++ [x] := by rw [List.take_add_one, hx]; rfl
      refine W.seqk fun K hK => ?_
      have nx2 : ∀ (t' : Fr) (h' : Heap) (n' : Nat) (is : Bool) (x : Lf), Nx (L.take (j + 1)) L a non x is → bb < n' → (∀ x, x < n → h' x = h x) → h' n = some (.cells [[.int .i64 0, .int .i64 0]]) → h' bb = some (.cells [eLf x]) → (t' 0 = .int .i64 non ∧ t' 1 = .sl B 0 M 1 ∧ t' 3 = .mp mb ∧ t' 8 = .ptr n 0 0 ∧ t' 10 = .ptr bb 0 0 ∧ t' 16 = lv ∧ t' 17 = .int .i64 L.length) → t' 11 = .bool is → t' 18 = .int .i64 j → K t' h' n' := by
        intro t' h' n' is x e1 e2 e3 e4 e5 e6 e7 e8
        refine hK _ _ _ ?_
        refine W.region (k := 2) rfl ?_
        simp only [go_sem, e8]
        refine ⟨L.length - (j + 1), by omega, j + 1, is, x, rfl, by omega, e1, by omega, e3, e4, e5, e6, e7, ?_⟩
        rw [wrap64 (by omega) (by omega)]; rfl
      clear hK
      refine W.block ?_
      have zbn : ∀ j, ¬ b = n1 + j := fun j => by omega
      have zmn : ∀ j, ¬ mb = n1 + j := fun j => by omega
      have zBn : ∀ j, ¬ B = n1 + j := fun j => by omega
      have zbb : ∀ j, ¬ bb = n1 + j := fun j => by omega
      have znn : ∀ j, ¬ n = n1 + j := fun j => by omega
      refine W.rseq (k := 4) rfl fun K hK => ?_
      simp only [go_sem, a16, hb, m10, hbx, hx, show (j : Int) < (L.length : Int) by omega]
      refine hK _ _ _ ?_
      clear hK K
      refine W.rseq (k := 5) rfl fun K hK => ?_
      simp only [go_sem, hmbx, hky, hfy, zmn, a3]
      refine hK _ _ _ ?_
      clear hK K
      refine W.seqk fun K hK => ?_
      have yes : ∀ (t' : Fr) (h' : Heap) (n' : Nat), bb < n' → (∀ x, x < n → h' x = h x) → h' n = some (.cells [[.int .i64 0, .int .i64 0]]) → h' bb = some (.cells [eLf bs]) → h' (n1 + 3) = some (.cells [eLf x]) → (t' 0 = .int .i64 non ∧ t' 1 = .sl B 0 M 1 ∧ t' 3 = .mp mb ∧ t' 8 = .ptr n 0 0 ∧ t' 10 = .ptr bb 0 0 ∧ t' 16 = lv ∧ t' 17 = .int .i64 L.length) → t' 13 = .ptr (n1 + 3) 0 0 → t' 18 = .int .i64 j → Nx (L.take j ++ [x]) L a non x true → K t' h' n' := by
        intro t' h' n' e1 e2 e3 e4 e5 e6 e7 e8 e9
        refine hK _ _ _ ?_
        clear hK K
        have e6' := e6
        obtain ⟨a0, a1, a3, a8, a10, a16, a17⟩ := e6'
        refine W.region (k := 3) rfl ?_
        simp only [go_sem, e7, e5, a10, e4]
        refine nx2 _ _ _ true x (by rw [ht1]; exact e9) (by omega) (fun y hy => by simp only [go_sem, show ¬ y = bb by omega]; exact e2 y hy) (by simp only [go_sem, znb, e3]) (by simp only [go_sem]) e6 rfl e8
      clear hK
      have fra : ∀ {o1 o2 o3 o4 : Option AO} {y : Nat}, y < n → upd (upd (upd (upd h1 (n1 + 3) o1) (n1 + 3) o2) (n1 + 8) o3) (n1 + 8) o4 y = h y := fun {o1 o2 o3 o4 y} hy => by
        simp only [go_sem, show ∀ j, ¬ y = n1 + j from fun j => by omega]; exact m5 y hy
      have hxt : (x.to : Int) < (M : Int) := by omega
      have lB : ∀ j, (B < n1 + j) = True := fun j => eq_true (by omega)
      have lm : ∀ j, (mb < n1 + j) = True := fun j => eq_true (by omega)
      have lb : ∀ j, (bb < n1 + j) = True := fun j => eq_true (by omega)
      refine W.dseq (k := 30) rfl fun K hK => ?_
      by_cases c1 : x.frm = non
      · have e1 : decide ((x.frm : Int) = (non : Int)) = true := by rw [c1]; simp
        by_cases c2 : d < 0
        · simp only [go_sem, lB, lm, lb, zmn, a0, a1, e1, hxt, hBx, zBn, had, eIn, decide_eq_true c2]
          refine hK _ _ _ _ (by kernel_rfl) ?_
          clear hK K
          refine W.condT (by simp only [go_sem]) ?_
          refine W.exit ?_
          simp only [go_sem]
          refine nx2 _ _ _ is bs ?_ (by omega) (fun y hy => fra hy) (by simp only [go_sem, znn, m6]) (by simp only [go_sem, zbb, m7]) m8 m9 m10
          rw [ht1]
          exact m3.old fun _ => .inl (by omega)
        · cases hi : is
          · simp only [go_sem, lB, lm, lb, zmn, a0, a1, e1, hxt, hBx, zBn, had, eIn, decide_eq_false c2, m9, hi]
            refine hK _ _ _ _ (by kernel_rfl) ?_
            clear hK K
            refine W.condF (by simp only [go_sem]) ?_
            refine W.skip ?_
            simp only [go_sem]
            refine yes _ _ _ (by omega) (fun y hy => fra hy) (by simp only [go_sem, znn, m6]) (by simp only [go_sem, zbb, m7]) (by simp only [go_sem]) m8 rfl m10 ?_
            exact m3.new hxm c1 (by omega) (fun e => by rw [hi] at e; cases e)
          · obtain ⟨q1, q2, q3, q4⟩ := m3.2 hi
            have hfb := find_yes L hUq q1
            rw [el] at hfb
            obtain ⟨_, q5⟩ := hLin bs q1
            have haf : a[bs.to]? = some f := by rw [hf]; exact getI_some (by omega)
            have hbt : (bs.to : Int) < (M : Int) := by omega
            by_cases c3 : d ≥ f
            · simp only [go_sem, lB, lm, lb, zmn, a0, a1, e1, hxt, hBx, zBn, had, eIn, decide_eq_false c2, m9, hi, a3, a10, m7, zbb, hkb, hfb, hmbx, haf, hbt, decide_eq_true c3]
              refine hK _ _ _ _ (by kernel_rfl) ?_
              clear hK K
              refine W.condT (by simp only [go_sem]) ?_
              refine W.exit ?_
              simp only [go_sem]
              refine nx2 _ _ _ is bs ?_ (by omega) (fun y hy => fra hy) (by simp only [go_sem, znn, m6]) (by simp only [go_sem, zbb, m7]) m8 m9 m10
              rw [ht1]
              exact m3.old fun _ => .inr ⟨hi, by omega⟩
            · simp only [go_sem, lB, lm, lb, zmn, a0, a1, e1, hxt, hBx, zBn, had, eIn, decide_eq_false c2, m9, hi, a3, a10, m7, zbb, hkb, hfb, hmbx, haf, hbt, decide_eq_false c3]
              refine hK _ _ _ _ (by kernel_rfl) ?_
              clear hK K
              refine W.condF (by simp only [go_sem]) ?_
              refine W.skip ?_
              simp only [go_sem]
              refine yes _ _ _ (by omega) (fun y hy => fra hy) (by simp only [go_sem, znn, m6]) (by simp only [go_sem, zbb, m7]) (by simp only [go_sem]) m8 rfl m10 ?_
              exact m3.new hxm c1 (by omega) (fun e => by omega)
      · simp only [go_sem, lB, lm, lb, zmn, a0, a1, show decide ((x.frm : Int) = (non : Int)) = false from decide_eq_false (by omega)]
        refine hK _ _ _ _ (by kernel_rfl) ?_
        clear hK K
        refine W.condT (by simp only [go_sem]) ?_
        refine W.exit ?_
        simp only [go_sem]
        refine nx2 _ _ _ is bs ?_ (by omega) (fun y hy => fra hy) (by simp only [go_sem, znn, m6]) (by simp only [go_sem, zbb, m7]) m8 m9 m10
        rw [ht1]
        exact m3.old fun e => absurd e c1
    · refine W.exit ?_
      simp only [go_sem]
      have hj : j = L.length := by simp at hc2; omega
      subst hj
      rw [List.take_length] at m3
      exact nx0 _ _ _ bs is (by omega) m5 m6 m7 a8 a10 m9 m3
  clear hK nx0
  rcases s4 with ⟨e, hb⟩ | ⟨b, hb, b1, b2, b3⟩
  · simp only [go_sem, hb]
    refine nx1 _ _ _ (by omega) (fun y hy => by simp only [go_sem, show ¬ y = n by omega, show ¬ y = bb by omega]) (by simp only [go_sem, znb]) (by simp only [go_sem]) ⟨rfl, rfl, rfl, rfl, rfl, by rw [← hb]; rfl, by rw [e]; rfl⟩ rfl rfl
  · simp only [go_sem, hb]
    refine nx1 _ _ _ (by omega) (fun y hy => by simp only [go_sem, show ¬ y = n by omega, show ¬ y = bb by omega]) (by simp only [go_sem, znb]) (by simp only [go_sem]) ⟨rfl, rfl, rfl, rfl, rfl, by rw [← hb]; rfl, rfl⟩ rfl rfl

end Go.Av

