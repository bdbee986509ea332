/-
  What runs on abstract values runs so in the model: the main theorem. Conditions: none.
-/
import Derived.Test.YtiiogleijmcccaaA18
namespace Go.Av

section
variable {P : Program} {Θ : Tab} {N : Nat}

theorem ExR.normal {ex : Exit} (h : ExR .normal ex) : ex = .normal := by cases ex <;> simp_all [ExR]
theorem ExR.exit {i : Nat} {ex : Exit} (h : ExR (.exit i) ex) : ex = .exit i := by cases ex <;> simp_all [ExR]
theorem ExR.goto {i : Nat} {ex : Exit} (h : ExR (.goto i) ex) : ex = .goto i := by cases ex <;> simp_all [ExR]
theorem ExR.ne {e : AEx} {ex : Exit} (h : ExR e ex) (he : e ≠ .normal) : ex ≠ .normal := by rintro rfl; cases e <;> simp_all [ExR]

theorem CQ.pre {e : AEx} {t t1 : Fr} {h h1 : Heap} {n n1 : Nat} {w w1 : World} {S F : Nat → Prop} {m : Pm} {a a1 : Act} {ex : Exit} (hp : Pre N t h n w S F m a) (ha : AbsS h n h1 n1)
    (hq : CQ P N e t1 h1 n1 w S F m n a ex a1 w1) : ∃ S1 m1, St w S F m n w1 S1 m1 n1 ∧ Pre N t1 h1 n1 w1 S1 F m1 a1 ∧ a1.defers = a.defers := by
  obtain ⟨_, S1, m1, k1, k2, k3, k4⟩ := hq
  exact ⟨S1, m1, k1, ⟨ha.2.2 hp.1, k3, k2, k1.free⟩, k4⟩

theorem CQ.comp {e : AEx} {t' : Fr} {h' : Heap} {n n1 n' : Nat} {w w1 w' : World} {S S1 F : Nat → Prop} {m m1 : Pm} {a a1 a' : Act} {ex : Exit} (hs : St w S F m n w1 S1 m1 n1) (hn : n ≤ n1) (hd : a1.defers = a.defers)
    (hq : CQ P N e t' h' n' w1 S1 F m1 n1 a1 ex a' w') : CQ P N e t' h' n' w S F m n a ex a' w' := by
  obtain ⟨k0, S2, m2, k1, k2, k3, k4⟩ := hq
  exact ⟨k0, S2, m2, hs.trans k1 hn, k2, k3, k4.trans hd⟩

theorem CQ.ex {e e' : AEx} {t' : Fr} {h' : Heap} {n n' : Nat} {w w' : World} {S F : Nat → Prop} {m : Pm} {a a' : Act} {ex ex' : Exit}
    (hq : CQ P N e t' h' n' w S F m n a ex a' w') (hx : ExR e' ex') : CQ P N e' t' h' n' w S F m n a ex' a' w' := ⟨hx, hq.2⟩

theorem ev_bool {w : World} {S : Nat → Prop} {m : Pm} {t : Fr} {a : Act} {c : Operand} {b : Bool} (h : TR w S m N t a) (hc : ev t c = some (.bool b)) : a.eval c = .bool b := by
  have := EV.of (w := w) (S := S) (m := m) (t := t) (a := a) (x := c) (fun i _ => h.2 i) _ hc
  generalize a.eval c = v at this ⊢
  cases this; rfl

theorem St.rfl {w : World} {S F : Nat → Prop} {m : Pm} {n : Nat} (h : ∀ b, n ≤ b → m b = none) : St w S F m n w S m n :=
  ⟨Ext.refl _ _, fun _ h => h, fun _ h => .inl h, fun _ _ h => h, fun _ _ => Eq.refl _, h⟩

theorem snd_seq {x y : Code} {t t1 t' : Fr} {h h1 h' : Heap} {n n1 n' : Nat} {e : AEx} (ha : CodeS P N x t h n .normal t1 h1 n1) (hb : CodeS P N y t1 h1 n1 e t' h' n') : CodeS P N (.seq x y) t h n e t' h' n' := by
  refine ⟨ha.1.trans hb.1, fun w S F m a hp => ?_, fun body hc => by cases hc⟩
  refine wp_seq (wp_mono (ha.2.1 w S F m a hp) fun ex a1 w1 hq => ?_)
  obtain rfl := ExR.normal hq.1
  obtain ⟨S1, m1, k1, k2, k3⟩ := hq.pre hp ha.1
  exact wp_mono (hb.2.1 w1 S1 F m1 a1 k2) fun ex a' w' hq' => CQ.comp k1 ha.1.1 k3 hq'

theorem snd_seqx {x y : Code} {t t' : Fr} {h h' : Heap} {n n' : Nat} {e : AEx} (he : e ≠ .normal) (ha : CodeS P N x t h n e t' h' n') : CodeS P N (.seq x y) t h n e t' h' n' := by
  refine ⟨ha.1, fun w S F m a hp => ?_, fun body hc => by cases hc⟩
  refine wp_seq (wp_mono (ha.2.1 w S F m a hp) fun ex a1 w1 hq => ?_)
  have := hq.1.ne he
  cases ex with
  | normal => exact absurd rfl this
  | _ => exact hq

theorem rounds_mono {c : Code} {Q Q' : Exit → Act → World → Prop} (hq : ∀ e a w, Q e a w → Q' e a w) : ∀ (r : Nat) (a : Act) (w : World), Code.rounds P c Q r a w → Code.rounds P c Q' r a w
  | 0, _, _, h => h.elim
  | r + 1, a, w, h => by
    rw [rounds_succ] at h ⊢
    refine wp_mono h fun ex a' w' h' => ?_
    cases ex with
    | normal => exact rounds_mono hq r a' w' h'
    | _ => exact hq _ _ _ h'

theorem snd_loop {c : Code} {t t1 t' : Fr} {h h1 h' : Heap} {n n1 n' : Nat} {e : AEx} (ha : CodeS P N c t h n .normal t1 h1 n1) (hb : CodeS P N (.loop c) t1 h1 n1 e t' h' n') : CodeS P N (.loop c) t h n e t' h' n' := by
  obtain ⟨r, hr⟩ := hb.2.2 c rfl
  have key : ∀ w S F m a, Pre N t h n w S F m a → Code.rounds P c (CQ P N e t' h' n' w S F m n a) (r + 1) a w := by
    intro w S F m a hp
    rw [rounds_succ]
    refine wp_mono (ha.2.1 w S F m a hp) fun ex a1 w1 hq => ?_
    obtain rfl := ExR.normal hq.1
    obtain ⟨S1, m1, k1, k2, k3⟩ := hq.pre hp ha.1
    have := hr w1 S1 F m1 a1 k2
    exact rounds_mono (fun ex a' w' hq' => CQ.comp k1 ha.1.1 k3 hq') r a1 w1 this
  exact ⟨ha.1.trans hb.1, fun w S F m a hp => wp_loop_rounds _ (key w S F m a hp), fun body hc => by cases hc; exact ⟨r + 1, key⟩⟩

theorem snd_loopE {c : Code} {t t' : Fr} {h h' : Heap} {n n' : Nat} {e : AEx} (he : e ≠ .normal) (ha : CodeS P N c t h n e t' h' n') : CodeS P N (.loop c) t h n e t' h' n' := by
  have key : ∀ w S F m a, Pre N t h n w S F m a → Code.rounds P c (CQ P N e t' h' n' w S F m n a) 1 a w := by
    intro w S F m a hp
    rw [rounds_succ]
    refine wp_mono (ha.2.1 w S F m a hp) fun ex a1 w1 hq => ?_
    have := hq.1.ne he
    cases ex with
    | normal => exact absurd rfl this
    | _ => exact hq
  exact ⟨ha.1, fun w S F m a hp => wp_loop_rounds _ (key w S F m a hp), fun body hc => by cases hc; exact ⟨1, key⟩⟩

theorem snd_block {id : Nat} {c : Code} {t t' : Fr} {h h' : Heap} {n n' : Nat} {e e' : AEx} (he : e = .normal ∧ e' = .normal ∨ e = .exit id ∧ e' = .normal ∨ e ≠ .exit id ∧ e' = e)
    (ha : CodeS P N c t h n e t' h' n') : CodeS P N (.block id c) t h n e' t' h' n' := by
  refine ⟨ha.1, fun w S F m a hp => ?_, fun body hc => by cases hc⟩
  refine wp_block (wp_mono (ha.2.1 w S F m a hp) fun ex a1 w1 hq => ?_)
  cases ex with
  | exit j =>
    simp only [Exit.inBlock]
    split
    · rename_i hj; subst hj
      rcases he with ⟨rfl, rfl⟩ | ⟨rfl, rfl⟩ | ⟨h1, rfl⟩
      · exact absurd hq.1 (by simp [ExR])
      · exact hq.ex trivial
      · have := hq.1
        cases e' <;> simp [ExR] at this
        subst this; exact absurd rfl h1
    · rename_i hj
      rcases he with ⟨rfl, rfl⟩ | ⟨rfl, rfl⟩ | ⟨h1, rfl⟩
      · exact absurd hq.1 (by simp [ExR])
      · exact absurd hq.1.symm hj
      · exact hq
  | normal =>
    rcases he with ⟨rfl, rfl⟩ | ⟨rfl, rfl⟩ | ⟨h1, rfl⟩
    · exact hq
    · exact absurd hq.1 (by simp [ExR])
    · exact hq
  | _ =>
    rcases he with ⟨rfl, rfl⟩ | ⟨rfl, rfl⟩ | ⟨h1, rfl⟩
    · exact absurd hq.1 (by simp [ExR])
    · exact absurd hq.1 (by simp [ExR])
    · exact hq

theorem snd_scope {c : Code} {t t' : Fr} {h h' : Heap} {n n' : Nat} {e : AEx} (ha : ScpS P N c c t h n e t' h' n') : CodeS P N (.scope c) t h n e t' h' n' := by
  refine ⟨ha.1, fun w S F m a hp => ?_, fun body hc => by cases hc⟩
  intro b k cs
  obtain ⟨ex, a', w', hq, harr⟩ := ha.2 w S F m a hp b k cs
  exact ⟨ex, a', w', hq, .of_steps (.one step_scope) harr⟩

theorem snd_scpD {body c : Code} {t t' : Fr} {h h' : Heap} {n n' : Nat} {e : AEx} (he : ∀ l, e ≠ .goto l) (ha : CodeS P N c t h n e t' h' n') : ScpS P N body c t h n e t' h' n' := by
  refine ⟨ha.1, fun w S F m a hp b k cs => ?_⟩
  obtain ⟨ex, a₁, w₁, hq, harr⟩ := ha.2.1 w S F m a hp b (.inScope body :: k) cs
  cases ex with
  | normal => exact ⟨.normal, a₁, w₁, hq, Steps.trans harr (.one step_inScope)⟩
  | exit id => exact ⟨.exit id, a₁, w₁, hq, fun k' hk => harr k' (by simp [exitTo, hk])⟩
  | goto l' =>
    have := hq.1
    cases e <;> simp [ExR] at this
    exact absurd rfl (he _)
  | ret => exact ⟨_, a₁, w₁, hq, harr⟩
  | panic ch => exact ⟨_, a₁, w₁, hq, harr⟩
  | outgrown => exact ⟨_, a₁, w₁, hq, harr⟩

theorem snd_scpG {body c rest : Code} {l : Nat} {t t1 t' : Fr} {h h1 h' : Heap} {n n1 n' : Nat} {e : AEx} (ha : CodeS P N c t h n (.goto l) t1 h1 n1) (hf : findLabel body l = some rest)
    (hr : ScpS P N body rest t1 h1 n1 e t' h' n') : ScpS P N body c t h n e t' h' n' := by
  refine ⟨ha.1.trans hr.1, fun w S F m a hp b k cs => ?_⟩
  obtain ⟨ex, a₁, w₁, hq, harr⟩ := ha.2.1 w S F m a hp b (.inScope body :: k) cs
  have := ExR.goto hq.1
  subst this
  have hg : gotoIn l (.inScope body :: k) = some (.code rest :: .inScope body :: k) := by simp [gotoIn, hf]
  obtain ⟨S1, m1, k1, k2, k3⟩ := hq.pre hp ha.1
  obtain ⟨e₂, a₂, w₂, hq₂, harr₂⟩ := hr.2 w₁ S1 F m1 a₁ k2 b k cs
  exact ⟨e₂, a₂, w₂, CQ.comp k1 ha.1.1 k3 hq₂, .of_steps (harr _ hg) harr₂⟩

theorem snd_forget {c : Code} {t t1 t' : Fr} {h h1 h' : Heap} {n n' : Nat} {e : AEx} (ht : ∀ x, t1 x = t x ∨ t1 x = .any) (hh : ∀ b, h1 b = h b ∨ h1 b = none) (ha : CodeS P N c t1 h1 n e t' h' n') : CodeS P N c t h n e t' h' n' := by
  have hn : ∀ b, h b = none → h1 b = none := fun b hb => (hh b).elim (fun h => h.trans hb) id
  have hp' : ∀ w S F m a, Pre N t h n w S F m a → Pre N t1 h1 n w S F m a := fun w S F m a hp =>
    ⟨fun b hb => hn b (hp.1 b hb), hp.2.1.less fun b o hb => (hh b).elim (fun h => h ▸ hb) (fun h => by rw [h] at hb; cases hb),
      ⟨hp.2.2.1.1, fun x => (ht x).elim (fun h => h ▸ hp.2.2.1.2 x) (fun h => h ▸ .any _)⟩, hp.2.2.2⟩
  refine ⟨⟨ha.1.1, fun b hb h => ha.1.2.1 b hb (hn b h), fun hf => ha.1.2.2 fun b hb => hn b (hf b hb)⟩, fun w S F m a hp => ha.2.1 w S F m a (hp' _ _ _ _ _ hp), fun body hc => ?_⟩
  obtain ⟨r, hr⟩ := ha.2.2 body hc
  exact ⟨r, fun w S F m a hp => hr w S F m a (hp' _ _ _ _ _ hp)⟩

theorem ares_one {w : World} {S : Nat → Prop} {m : Pm} {t : Fr} {a : Act} {h : Heap} {r : ResultVar} {v : AV} (ht : TR w S m N t a) (hr : ares1 t h r = some v) : ∃ x, r = .tmp x ∧ VR w S m v (a.tmps.getD x undef) := by
  cases r with
  | tmp x => simp only [ares1, Option.some.injEq] at hr; subst hr; exact ⟨x, rfl, ht.2 x⟩
  | cell _ _ => simp [ares1] at hr

theorem ares_list {f : ResultVar → Sem Value} {w : World} {S : Nat → Prop} {m : Pm} {t : Fr} {a : Act} {h : Heap} (ht : TR w S m N t a) (hf : ∀ x, f (.tmp x) = pure (a.tmps.getD x undef)) : ∀ (rs : List ResultVar) (vs : List AV), aresL t h rs = some vs →
    ∃ us : List Value, (rs.mapM (m := Sem) f).run P w = .ok us w ∧ LR w S m vs us
  | [], vs, hr => by simp only [aresL, Option.some.injEq] at hr; subst hr; exact ⟨[], by simp [Sem.run_pure], LR.nil⟩
  | r :: rs, vs, hr => by
    simp only [aresL] at hr
    split at hr
    · rename_i v vs' h1 h2
      simp only [Option.some.injEq] at hr; subst hr
      obtain ⟨x, rfl, hx⟩ := ares_one ht h1
      obtain ⟨us, hu, hL⟩ := ares_list ht hf rs vs' h2
      refine ⟨a.tmps.getD x undef :: us, ?_, LR.cons hx hL⟩
      simp only [List.mapM_cons, hf, Sem.run_bind, Sem.run_pure, Result.andThen_ok, hu]
    · cases hr

theorem ares_ok {w : World} {S : Nat → Prop} {m : Pm} {t : Fr} {a : Act} {h : Heap} {fn : Func} {v : AV} (ht : TR w S m N t a) (hr : ares fn.results t h = some v) :
    ∃ u, (results fn a.tmps).run P w = .ok u w ∧ VR w S m v u := by
  unfold ares at hr
  unfold results
  rw [Array.mapM_eq_mapM_toList]
  split at hr
  · rename_i v' h1
    simp only [Option.some.injEq] at hr; subst hr
    obtain ⟨us, hu, hL⟩ := ares_list (P := P) (f := fun | .tmp t => pure (a.tmps.getD t undef) | .cell b t => do loadVar t (← asAddr (a.tmps.getD b undef))) ht (fun _ => rfl) _ _ h1
    obtain ⟨x, rfl⟩ : ∃ x, us = [x] := by
      have := hL.1
      match us, this with
      | [x], _ => exact ⟨x, rfl⟩
    refine ⟨x, ?_, hL.2 0 v' x rfl rfl⟩
    simp only [map_eq_pure_bind, Sem.run_bind, Sem.run_pure]
    refine (congrArg (fun r => (Result.andThen r _).andThen _) hu).trans ?_
    rfl
  · rename_i vs hne h1
    simp only [Option.some.injEq] at hr; subst hr
    obtain ⟨us, hu, hL⟩ := ares_list (P := P) (f := fun | .tmp t => pure (a.tmps.getD t undef) | .cell b t => do loadVar t (← asAddr (a.tmps.getD b undef))) ht (fun _ => rfl) _ _ h1
    refine ⟨.tuple us.toArray, ?_, .tup _ _ hL.1 hL.2⟩
    simp only [map_eq_pure_bind, Sem.run_bind, Sem.run_pure]
    refine (congrArg (fun r => (Result.andThen r _).andThen _) hu).trans ?_
    have : ¬ us.toArray.size = 1 := by
      intro h
      have : vs.length = 1 := by rw [← hL.1]; simpa using h
      match vs, this with
      | [x], _ => exact hne x rfl
    simp only [Result.andThen_ok, this, dif_neg, not_false_eq_true]
  · cases hr

theorem snd_fn {f : FuncId} {fn : Func} {c : Code} {args : List AV} {t' : Fr} {h h' : Heap} {n n' : Nat} {e : AEx} {res : AV} (hf : P.funcs[f]? = some fn) (hb : fn.body = some c) (hN : args.length ≤ fn.ntmps) (hn : fn.name ≠ "runtime.NumGoroutine")
    (ha : CodeS P fn.ntmps c (fr0 args) h n e t' h' n') (he : e = .normal ∨ e = .ret) (hr : ares fn.results t' h' = some res) : FnS P f args h n res h' n' := by
  refine ⟨ha.1, ⟨fn, hf, by simp [hb], hn⟩, fun w S F m vs hx hrel hL hfr => ?_⟩
  refine calls_of_wp hf hb ?_
  have hT : TR w S m fn.ntmps (fr0 args) { tmps := vs.toArray ++ Array.replicate (fn.ntmps - vs.toArray.size) undef, defers := [] } := by
    refine ⟨by simp [hL.1]; omega, fun x => ?_⟩
    unfold fr0
    by_cases hx : x < args.length
    · have e1 : args.getD x .any = args[x] := by simp [hx]
      have hx' : x < vs.length := by rw [hL.1]; exact hx
      have e2 : (vs.toArray ++ Array.replicate (fn.ntmps - vs.toArray.size) undef).getD x undef = vs[x] := by
        rw [Array.getD_eq_getD_getElem?, Array.getElem?_append_left (by simpa using hx')]; simp [hx']
      rw [e1, e2]
      exact hL.2 x _ _ (by simp [hx]) (by simp [hx'])
    · have e1 : args.getD x .any = .any := by simp [Nat.le_of_not_lt hx]
      rw [e1]; exact .any _
  refine wp_mono (ha.2.1 w S F m _ ⟨hx, hrel, hT, hfr⟩) fun ex a' w' hq => ?_
  obtain ⟨hx, S', m', k1, k2, k3, k4⟩ := hq
  obtain ⟨u, hu, hv⟩ := ares_ok (P := P) k2 hr
  rcases he with rfl | rfl
  · rw [ExR.normal hx]
    exact ⟨k4, u, hu, u, S', m', rfl, k1, hv, k3⟩
  · cases ex <;> simp [ExR] at hx
    exact ⟨k4, u, hu, u, S', m', rfl, k1, hv, k3⟩

/-- What runs on abstract values runs so in the model. -/
theorem sound (hT : TabOK P Θ) (hm : P.follows .mixedOrders = true) {j : Job} (h : Big P Θ j) : Snd P j := by
  induction h with
  | skip ho hg hd => exact op_skip ho hg hd
  | plain ho hg hd hop => exact op_plain hT ho hg hd hop
  | callH ho hg hd hop hc hf ha hb ih => exact op_callH ho hg hd hop hc hf ha ih
  | callP live ho hg hd hop hc hf ha hr hb hr' ih => exact op_callP live ho hg hd hop hc hf ha hr ih hr'
  | callT live ho hg hd hop hc hf ha hr hb hh hl hr' ih => exact op_callT live ho hg hd hop hc hf ha hr ih hh hl hr'
  | nil => exact rfl
  | cons h1 h2 ih1 ih2 => exact ⟨_, ih1, ih2⟩
  | cskip => exact ⟨AbsS.refl _ _, fun w S F m a hp => wp_skip ⟨trivial, S, m, St.rfl hp.2.2.2, hp.2.2.1, hp.2.1, rfl⟩, fun body hc => by cases hc⟩
  | label => exact ⟨AbsS.refl _ _, fun w S F m a hp => wp_label ⟨trivial, S, m, St.rfl hp.2.2.2, hp.2.2.1, hp.2.1, rfl⟩, fun body hc => by cases hc⟩
  | exit => exact ⟨AbsS.refl _ _, fun w S F m a hp => wp_exit ⟨rfl, S, m, St.rfl hp.2.2.2, hp.2.2.1, hp.2.1, rfl⟩, fun body hc => by cases hc⟩
  | goto => exact ⟨AbsS.refl _ _, fun w S F m a hp => wp_goto ⟨rfl, S, m, St.rfl hp.2.2.2, hp.2.2.1, hp.2.1, rfl⟩, fun body hc => by cases hc⟩
  | ret => exact ⟨AbsS.refl _ _, fun w S F m a hp => wp_ret ⟨trivial, S, m, St.rfl hp.2.2.2, hp.2.2.1, hp.2.1, rfl⟩, fun body hc => by cases hc⟩
  | @region N id ops draw t h n cs t' h' n' hb hd ih =>
    refine ⟨region_abs ih, fun w S F m a hp => ?_, fun body hc => by cases hc⟩
    cases draw with
    | false => exact region_seq ih hp
    | true => exact region_draw hm ih (hd rfl) hp
  | seq ha hb iha ihb => exact snd_seq iha ihb
  | seqx he ha ih => exact snd_seqx he ih
  | condT hc ha ih => exact ⟨ih.1, fun w S F m a hp => wp_cond_true (ev_bool hp.2.2.1 hc) (ih.2.1 w S F m a hp), fun body hc => by cases hc⟩
  | condF hc ha ih => exact ⟨ih.1, fun w S F m a hp => wp_cond_false (ev_bool hp.2.2.1 hc) (ih.2.1 w S F m a hp), fun body hc => by cases hc⟩
  | block hc ih => exact snd_block (.inl ⟨rfl, rfl⟩) ih
  | blockX hc ih => exact snd_block (.inr (.inl ⟨rfl, rfl⟩)) ih
  | blockE he he' hc ih => exact snd_block (.inr (.inr ⟨he', rfl⟩)) ih
  | loop hc hl ih1 ih2 => exact snd_loop ih1 ih2
  | loopE he hc ih => exact snd_loopE he ih
  | scope hc ih => exact snd_scope ih
  | scpD he hc ih => exact snd_scpD he ih
  | scpG hc hf hr ih1 ih2 => exact snd_scpG ih1 hf ih2
  | forget ht hh hc ih => exact snd_forget ht hh ih
  | fn hf hb hN hn hc he hr ih => exact snd_fn hf hb hN hn ih he hr

end
end Go.Av
