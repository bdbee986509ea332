/-
  Layer 11, the document's answer: the set of symbols. Conditions: none.
-/
import Derived.Test.YtiiogleijmcccaaF4
namespace Go.Av
open Go.Proofs
set_option maxRecDepth 100000
set_option linter.unusedSimpArgs false
set_option linter.unusedVariables false

theorem eSt_congr {f : Nat → Bool} {n : Nat} (h : ∀ t, t < 32 → f t = n.testBit t) : cB f = eSt n := by
  unfold eSt cB
  refine List.map_congr_left fun t ht => ?_
  rw [h t (List.mem_range.1 ht)]

theorem bit_or (a b t : Nat) : (a ||| b).testBit t = (a.testBit t || b.testBit t) := Nat.testBit_or a b t

theorem bit_one {a ν t : Nat} : (a ||| 2 ^ ν).testBit t = if t = ν then true else a.testBit t := by
  rw [Nat.testBit_or, Nat.testBit_two_pow]
  by_cases h : t = ν
  · simp [h]
  · simp [h, Ne.symm h]

theorem eSt_one {a ν : Nat} (h : ν < 32) : (eSt a).take ν ++ (.bool true :: (eSt a).drop (ν + 1)) = eSt (a ||| 2 ^ ν) := by
  unfold eSt
  rw [cB_over h]
  exact eSt_congr fun t _ => bit_one.symm

theorem eSt_take {a : Nat} : (eSt a).take 32 = eSt a := List.take_of_length_le (by rw [show (eSt a).length = 32 from cB_len]; omega)

theorem eSt_drop {a : Nat} : (eSt a).drop 32 = [] := List.drop_eq_nil_of_le (by rw [show (eSt a).length = 32 from cB_len]; omega)

theorem f49 (l : List Sy) (sets : List Nat) (null : List Fc) (hl : l.length < 2 ^ 60) (hn : null.length = sets.length) (hd : SyIn sets.length l) :
    PF pg Tq 49 [.ro (l.map eSy), .ro (sets.map eSt), .ro (null.map eFc)] (.tup [.agg (eSt (rowW sets null 0 l).1), .bool (rowW sets null 0 l).2]) := by
  have fin : FH pg Tq 49 [.ro (l.map eSy), .ro (sets.map eSt), .ro (null.map eFc)] h0 0 fun r _ _ => r = .tup [.agg (eSt (rowW sets null 0 l).1), .bool (rowW sets null 0 l).2] := by
    obtain ⟨A, hA⟩ : ∃ A, A = eSt 0 := ⟨_, rfl⟩
    have hall0 : (eSt 0).all scal = true := cB_scal
    have hlenA : (eSt 0).length = 32 := cB_len
    refine FH.of (N := 64) (rs := #[.cell 6 58, .tmp 7]) Try.func49 rfl rfl (of_decide_eq_true rfl) rfl (by decide) ?_
    refine W.rseq (k := 2) rfl fun K hK => ?_
    simp only [go_sem]
    refine hK _ _ _ ?_
    clear hK K
    refine W.rseq (k := 3) rfl fun K hK => ?_
    simp only [go_sem]
    refine hK _ _ _ ?_
    clear hK K
    refine W.seq ?_
    refine W.rseq (k := 1) rfl fun K hK => ?_
    simp only [go_sem]
    refine hK _ _ _ ?_
    clear hK K
    obtain ⟨bl, hbl⟩ : ∃ bl, bl = 3 := ⟨_, rfl⟩
    have z0 : ¬ 0 = bl := by omega
    refine W.block (W.while (fun m t h n => ∃ (k out : Nat), m = l.length - k ∧ k ≤ l.length ∧ bl < n ∧ t 0 = .ro (l.map eSy) ∧ t 1 = .ro (sets.map eSt) ∧ t 2 = .ro (null.map eFc) ∧ t 6 = .ptr 0 0 0 ∧ t 8 = .ptr bl 0 0 ∧ t 9 = .int .i64 k ∧ h 0 = some (.cells [eSt 0]) ∧ h bl = some (.cells [eSt out]) ∧ rowW sets null out (l.drop k) = rowW sets null 0 l) l.length
      ⟨0, 0, by simp, by simp, by omega, rfl, rfl, rfl, rfl, by rw [hbl]; rfl, rfl, by simp only [go_sem]; rfl, by simp only [go_sem, hbl]; rfl, rfl⟩ fun m t h n ⟨k, out, i1, i2, i3, i4, i5, i6, i7, i8, i9, i10, i11, i12⟩ => ?_)
    have hlen : (eSt out).length = 32 := cB_len
    have hall : (eSt out).all scal = true := cB_scal
    refine W.seq ?_
    refine W.rseq (k := 4) rfl fun K hK => ?_
    simp only [go_sem, i4, i9]
    refine hK _ _ _ ?_
    clear hK K
    refine W.cond rfl (fun hc => ?_) fun hc => ?_
    · refine W.skip ?_
      simp only [go_sem]
      have hk : k < l.length := by simp at hc; omega
      obtain ⟨s, hsk⟩ := get_some hk
      have hm : s ∈ l := List.mem_of_getElem? hsk
      have hdr : l.drop k = s :: l.drop (k + 1) := by
        rw [List.drop_eq_getElem_cons hk]
        congr 1
        exact (List.getElem_eq_iff hk).2 hsk
      rw [hdr, rowW] at i12
      obtain ⟨h0', h1'⟩ := hd s hm
      obtain ⟨ν, hν⟩ : ∃ ν : Nat, s.n = ν := ⟨s.n.toNat, by omega⟩
      rw [hν] at h1' i12
      rw [Int.toNat_natCast] at i12
      refine W.seq (W.block ?_)
      refine W.seq ?_
      refine W.rseq (k := 6) rfl fun K hK => ?_
      simp only [go_sem, i4, i9, hsk]
      refine hK _ _ _ ?_
      clear hK K
      cases hsn : s.non
      · rw [hsn] at h1' i12
        simp only [Bool.false_eq_true, if_false] at h1' i12
        have hν32 : ν < 32 := by omega
        refine W.condT (by simp only [go_sem, hsn]) ?_
        refine W.rseq (k := 7) rfl fun K hK => ?_
        simp only [go_sem, i4, i8, i9, i11, hsk, hν, hlen, show (ν : Int) < 32 by omega, Nat.mul_one, show ν ≤ 31 by omega, eSt_one hν32]
        refine hK _ _ _ ?_
        clear hK K
        have hlen2 : (eSt (out ||| 2 ^ ν)).length = 32 := cB_len
        have hall2 : (eSt (out ||| 2 ^ ν)).all scal = true := cB_scal
        refine W.rseq (k := 3) rfl fun K hK => ?_
        simp only [go_sem, i7, i8, i10, i11, hlen2, hlenA, hall2, eSt_take, eSt_drop, List.append_nil, Nat.le_refl, and_self, z0, if_false, if_true]
        refine hK _ _ _ ?_
        clear hK K
        refine W.ret ?_
        simp only [go_sem, i7, z0, eSt_take, Nat.le_refl, hlenA, hlen2, if_true]
        rw [← i12]
      · rw [hsn] at h1' i12
        simp only [if_true] at h1' i12
        refine W.condF (by simp only [go_sem, hsn]) ?_
        refine W.skip ?_
        simp only [go_sem]
        have hνM : ν < sets.length := by omega
        obtain ⟨S, hS⟩ : ∃ S, S = sets.getD ν 0 := ⟨_, rfl⟩
        have hgs : sets[ν]? = some S := by rw [hS]; simp [hνM]
        rw [← hS] at i12
        obtain ⟨b, hb⟩ := fc_get (l := null) (n := (ν : Int)) (by omega) (by omega)
        have hb' : null[ν]? = some (rk null ν, b) := by simpa using hb
        refine W.seq ?_
        refine W.rseq (k := 1) rfl fun K hK => ?_
        simp only [go_sem]
        refine hK _ _ _ ?_
        clear hK K
        refine W.block (W.while (fun m t h n => ∃ j : Nat, m = 32 - j ∧ j ≤ 32 ∧ bl < n ∧ t 0 = .ro (l.map eSy) ∧ t 1 = .ro (sets.map eSt) ∧ t 2 = .ro (null.map eFc) ∧ t 6 = .ptr 0 0 0 ∧ t 8 = .ptr bl 0 0 ∧ t 9 = .int .i64 k ∧ t 10 = .int .i64 j ∧ h 0 = some (.cells [eSt 0]) ∧ h bl = some (.cells [cB fun t => if t < j then (out ||| S).testBit t else out.testBit t])) 32
          ⟨0, by simp, by simp, by omega, i4, i5, i6, i7, i8, i9, rfl, by simp only [go_sem, i10], by simp only [go_sem, i11]; rfl⟩ fun m t h n ⟨j, j1, j2, j3, j4, j5, j6, j7, j8, j9, j10, j11, j12⟩ => ?_)
        refine W.seq ?_
        refine W.rseq (k := 2) rfl fun K hK => ?_
        simp only [go_sem, j10]
        refine hK _ _ _ ?_
        clear hK K
        refine W.cond rfl (fun hc2 => ?_) fun hc2 => ?_
        · refine W.skip ?_
          simp only [go_sem]
          have hj : j < 32 := by simp at hc2; omega
          refine W.seq (W.block ?_)
          obtain ⟨f, hf⟩ : ∃ f : Nat → Bool, f = fun t => if t < j then (out ||| S).testBit t else out.testBit t := ⟨_, rfl⟩
          rw [← hf] at j12
          have hfj : f j = out.testBit j := by rw [hf]; simp
          have hfn : (fun x => if x = j then (f j || S.testBit j) else f x) = fun t => if t < j + 1 then (out ||| S).testBit t else out.testBit t := by
            funext x
            rw [hfj, ← Nat.testBit_or, hf]
            by_cases h1 : x = j
            · subst h1; simp
            · by_cases h2 : x < j
              · simp [h1, h2, show x < j + 1 by omega]
              · simp [h1, h2, show ¬ x < j + 1 by omega]
          have hgetf : ((cB f).drop j).take 1 = [.bool (f j)] := cB_get hj
          have hgetS : ((eSt S).drop j).take 1 = [.bool (S.testBit j)] := cB_get hj
          have hlf : (cB f).length = 32 := cB_len
          have hlS : (eSt S).length = 32 := cB_len
          have hov := cB_over (f := f) (b := f j || S.testBit j) hj
          rw [hfn] at hov
          have j9' : t 9 = .int .i64 k := j9
          cases hfj2 : f j
          · rw [hfj2] at hgetf hov
            rw [Bool.false_or] at hov
            refine W.region (k := 18) rfl ?_
            simp only [go_sem, j4, j5, j8, j9, j10, j12, hsk, hν, hgs, hgetf, hgetS, hlf, hlS, hov, show (j : Int) < 32 by omega, Nat.mul_one, show j ≤ 31 by omega]
            refine W.region (k := 3) rfl ?_
            simp only [go_sem, j10]
            refine ⟨32 - (j + 1), by omega, j + 1, rfl, by omega, by omega, j4, j5, j6, j7, j8, j9, ?_, ?_, ?_⟩
            · rw [wrap64 (by omega) (by omega)]; rfl
            · simp only [go_sem, z0, if_false, j11]
            · simp only [go_sem]
          · rw [hfj2] at hgetf hov
            rw [Bool.true_or] at hov
            refine W.region (k := 18) rfl ?_
            simp only [go_sem, j4, j5, j8, j9, j10, j12, hsk, hν, hgs, hgetf, hgetS, hlf, hlS, hov, show (j : Int) < 32 by omega, Nat.mul_one, show j ≤ 31 by omega]
            refine W.region (k := 3) rfl ?_
            simp only [go_sem, j10]
            refine ⟨32 - (j + 1), by omega, j + 1, rfl, by omega, by omega, j4, j5, j6, j7, j8, j9, ?_, ?_, ?_⟩
            · rw [wrap64 (by omega) (by omega)]; rfl
            · simp only [go_sem, z0, if_false, j11]
            · simp only [go_sem]
        · refine W.exit ?_
          simp only [go_sem]
          have hj : j = 32 := by simp at hc2; omega
          subst hj
          have hfin : (cB fun t => if t < 32 then (out ||| S).testBit t else out.testBit t) = eSt (out ||| S) := eSt_congr fun t ht => by rw [if_pos ht]
          rw [hfin] at j12
          have hlen2 : (eSt (out ||| S)).length = 32 := cB_len
          have hall2 : (eSt (out ||| S)).all scal = true := cB_scal
          refine W.rseq (k := 10) rfl fun K hK => ?_
          simp only [go_sem, j4, j6, j9, hsk, hν, hb']
          refine hK _ _ _ ?_
          clear hK K
          by_cases hz : rk null ν = 0
          · rw [if_pos hz] at i12
            refine W.condT (by simp only [go_sem, hz]) ?_
            refine W.rseq (k := 3) rfl fun K hK => ?_
            simp only [go_sem, j7, j8, j11, j12, hlen2, hlenA, hall2, eSt_take, eSt_drop, List.append_nil, Nat.le_refl, and_self, z0, if_false, if_true]
            refine hK _ _ _ ?_
            clear hK K
            refine W.ret ?_
            simp only [go_sem, j7, z0, eSt_take, Nat.le_refl, hlenA, hlen2]
            rw [← i12]
          · rw [if_neg hz] at i12
            refine W.condF (by simp only [go_sem, hz]) ?_
            refine W.skip ?_
            simp only [go_sem]
            refine W.region (k := 3) rfl ?_
            simp only [go_sem, j9]
            refine ⟨l.length - (k + 1), by omega, k + 1, _, rfl, by omega, by omega, j4, j5, j6, j7, j8, ?_, ?_, j12, i12⟩
            · rw [wrap64 (by omega) (by omega)]; rfl
            · simp only [go_sem, j11]
    · refine W.exit ?_
      simp only [go_sem]
      have hk : k = l.length := by simp at hc; omega
      subst hk
      rw [List.drop_length, rowW] at i12
      refine W.rseq (k := 3) rfl fun K hK => ?_
      simp only [go_sem, i7, i8, i10, i11, hlen, hlenA, hall, eSt_take, eSt_drop, List.append_nil, Nat.le_refl, and_self, z0, if_false, if_true]
      refine hK _ _ _ ?_
      clear hK K
      refine W.ret ?_
      simp only [go_sem, i7, z0, eSt_take, Nat.le_refl, hlenA, hlen, if_true]
      rw [← i12]
  obtain ⟨r, h', n', hb, rfl⟩ := fin
  have e : ∀ fr, rfs fr 4 h' [.agg (eSt (rowW sets null 0 l).1), .bool (rowW sets null 0 l).2] = some [.agg (eSt (rowW sets null 0 l).1), .bool (rowW sets null 0 l).2] := fun fr => rfs_cons rf_st (rfs_cons (by simp [rf]) rfs_nil)
  exact ⟨_, h', n', hb, 5, fun fr => by rw [rf]; simp only [e]⟩

end Go.Av

