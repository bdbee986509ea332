/-
  A region's operations, in the text's order and in any other. Conditions: none.
-/
import Derived.Test.YtiiogleijmcccaaA14
namespace Go.Av

def OpsS (P : Program) (N : Nat) (ops : Array Oper) (n0 : Nat) : List Nat → OS → List Cls → OS → Prop
  | [], σ, [], σ' => σ = σ'
  | i :: l, σ, c :: cs, σ' => ∃ σ1, OpS P N ops n0 i σ c σ1 ∧ OpsS P N ops n0 l σ1 cs σ'
  | _, _, _, _ => False

section
variable {P : Program} {w : World} {S F : Nat → Prop} {m : Pm} {N : Nat} {ops : Array Oper} {n0 : Nat}

/-- In the text's order. -/
theorem seq_ops : ∀ (l : List Nat) (σ : OS) (cs : List Cls) (σ' : OS), OpsS P N ops n0 l σ cs σ' → l.Nodup → (∀ i ∈ l, n0 + i < σ.x) →
    (σ.x ≤ σ'.x ∧ (∀ b, (∀ i ∈ l, b ≠ n0 + i) → b < σ.x → σ.h b = none → σ'.h b = none) ∧ ((∀ b, σ.x ≤ b → σ.h b = none) → ∀ b, σ'.x ≤ b → σ'.h b = none)) ∧
    ∀ (w : World) (S F : Nat → Prop) (m : Pm) (a : Act) (Q : Exit → Act → World → Prop), (∀ b, σ.x ≤ b → σ.h b = none) → Rel w S F m σ.h → TR w S m N σ.t a → (∀ i ∈ l, m (n0 + i) = none) → (∀ b, σ.x ≤ b → m b = none) →
      (∀ a' w' S' m', Ext (fun k => S k ∨ F k) w w' → (∀ k, S k → S' k) → (∀ k, S' k → S k ∨ w.heap.size ≤ k) → (∀ b p, m b = some p → m' b = some p) → (∀ b, (∀ i ∈ l, b ≠ n0 + i) → b < σ.x → m' b = m b) →
        (∀ b, σ'.x ≤ b → m' b = none) → TR w' S' m' N σ'.t a' → Rel w' S' F m' σ'.h → a'.defers = a.defers → Q .normal a' w') → wpOps P ops Q l a w
  | [], σ, [], σ', h, _, _ => by
    cases h
    exact ⟨⟨Nat.le_refl _, fun _ _ _ h => h, fun h => h⟩, fun w S F m a Q _ hr ht _ hx hQ => hQ a w S m (Ext.refl _ _) (fun _ h => h) (fun _ h => .inl h) (fun _ _ h => h) (fun _ _ _ => rfl) hx ht hr rfl⟩
  | [], _, _ :: _, _, h, _, _ => h.elim
  | _ :: _, _, [], _, h, _, _ => h.elim
  | i :: l, σ, c :: cs, σ', h, hnd, hlt => by
    obtain ⟨σ1, ⟨o, v, u, h1⟩, h2⟩ := h
    have hi : n0 + i < σ.x := hlt i (by simp)
    have hnd' := List.nodup_cons.1 hnd
    obtain ⟨⟨ih1, ih2, ih3⟩, ih⟩ := seq_ops l σ1 cs σ' h2 hnd'.2 (fun j hj => Nat.lt_of_lt_of_le (hlt j (by simp [hj])) h1.x)
    refine ⟨⟨Nat.le_trans h1.x ih1, fun b hb hbx hn => ?_, fun hf => ih3 (h1.free hf hi)⟩, fun w S F m a Q hfr hr ht hs hx hQ => ?_⟩
    · exact ih2 b (fun j hj => hb j (by simp [hj])) (Nat.lt_of_lt_of_le hbx h1.x) (h1.res b (hb i (by simp)) hbx hn)
    rw [wpOps_cons]
    refine h1.sim w S F m a σ.h hr (fun b o p _ _ _ h => h) (fun x _ => ht.2 x) (hs i (by simp)) (fun _ => hx) hfr hi Q _ fun v' w' S' m' e1 e2 e3 e4 e5 e6 _ e7 e8 e9 => ?_
    have hrel : Rel w' S' F m' σ1.h := by
      by_cases hW : c = .W
      · exact e9 hW
      · rw [(h1.quiet hW).2.1]; exact e8 hW
    have old : ∀ b, b < σ.x → b ≠ n0 + i → m' b = m b := fun b hb hne => by
      by_cases hW : c = .W
      · exact (e6 hW).1 b hb hne
      · exact e5 hW b hne
    have fre : ∀ b, σ1.x ≤ b → m' b = none := fun b hb => by
      by_cases hW : c = .W
      · exact (e6 hW).2 b hb
      · rw [(h1.quiet hW).1] at hb
        rw [e5 hW b (by omega)]; exact hx b hb
    have htr : TR w' S' m' N σ1.t (a.put o.dst v') := by
      rw [h1.t]
      exact (ht.mono (e1.mono fun k hk => .inl hk) e2 e4).put h1.dst e7
    refine ih w' S' F m' (a.put o.dst v') Q (h1.free hfr hi) hrel htr (fun j hj => ?_) fre fun a'' w'' S'' m'' f1 f2 f3 f4 f5 f6 f7 f8 f9 => ?_
    · have hne : j ≠ i := fun e => hnd'.1 (e ▸ hj)
      rw [old (n0 + j) (hlt j (by simp [hj])) (by omega)]
      exact hs j (by simp [hj])
    · refine hQ a'' w'' S'' m'' (e1.trans f1 fun k hk => hk.imp (e2 k) id) (fun k hk => f2 k (e2 k hk)) (fun k hk => ?_) (fun b p hb => f4 b p (e4 b p hb)) (fun b hb hbx => ?_) f6 f7 f8 (f9.trans (by cases o.dst <;> rfl))
      · rcases f3 k hk with h | h
        · exact e3 k h
        · exact .inr (Nat.le_trans e1.size h)
      · rw [f5 b (fun j hj => hb j (by simp [hj])) (Nat.lt_of_lt_of_le hbx h1.x), old b hbx (hb i (by simp))]

end
end Go.Av
