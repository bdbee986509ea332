/-
  Rules by which a function's code is walked on abstract values. Conditions: none.
-/
import Derived.Test.YtiiogleijmcccaaA20
namespace Go.Av

section
variable (P : Program) (Θ : Tab)

/-- The code runs, and Q holds at its end. -/
def W (N : Nat) (c : Code) (t : Fr) (h : Heap) (n : Nat) (Q : AEx → Fr → Heap → Nat → Prop) : Prop :=
  ∃ e t' h' n', Big P Θ (.code N c t h n e t' h' n') ∧ Q e t' h' n'

def WS (N : Nat) (body c : Code) (t : Fr) (h : Heap) (n : Nat) (Q : AEx → Fr → Heap → Nat → Prop) : Prop :=
  ∃ e t' h' n', Big P Θ (.scp N body c t h n e t' h' n') ∧ Q e t' h' n'

/-- A call at slot s, in one of three ways. -/
def VCall (s : Nat) (g : FuncId) (args : List AV) (h : Heap) (x : Nat) (k : Cls → AV → Heap → Nat → Prop) : Prop :=
  (∃ res h' x', Big P Θ (.fn g args h x res h' x') ∧ k .W res h' x') ∨
  (∃ live d d' as' res res' h1 x1, rfs true d (if live then h else h0) args = some as' ∧ Big P Θ (.fn g as' h0 0 res h1 x1) ∧ rf (!live) d' h1 res = some res' ∧ k (if live then .Q else .L) res' h x) ∨
  (∃ live d d' as' b len sz es es' h1 x1, rfs true d (if live then h else h0) args = some as' ∧ Big P Θ (.fn g as' h0 0 (.sl b 0 len sz) h1 x1) ∧ h1 b = some (.cells es) ∧ len = es.length ∧ rfe (!live) d' (upd h1 b none) es = some es' ∧
    k (if live then .Q else .L) (.sl s 0 len sz) (upd h s (some (.cells es'))) x)

def gdL (ops : List Oper) (t : Fr) (o : Oper) : Option Bool :=
  match o.guard with
  | none => some true
  | some (g, want) => match (ops[g]?).bind (·.dst) with
    | some d => match t d with
      | .bool b => some (b == want)
      | .tup [] => some false
      | _ => none
    | none => some false

/-- What an operation of a region asks. -/
def VOp (s n0 : Nat) (op : Op) (t : Fr) (h : Heap) (x : Nat) (k : Cls → AV → Heap → Nat → Prop) : Prop :=
  match op with
  | .call cl => match cl.callee with
    | .value f => match ev t f, evs t cl.args.toList with
      | some (.fn g caps), some as => VCall P Θ s g (as ++ caps) h x k
      | _, _ => False
    | _ => match aop Θ (.call cl) t h n0 s with
      | some (c, v, u) => k c v (upds h u) x
      | none => False
  | op => match aop Θ op t h n0 s with
    | some (c, v, u) => k c v (upds h u) x
    | none => False

/-- What a region asks. -/
def VL (N : Nat) (ops : List Oper) (n0 : Nat) : Nat → List Oper → Fr → Heap → Nat → List Cls → (List Cls → Fr → Heap → Nat → Prop) → Prop
  | _, [], t, h, x, cs, K => K cs t h x
  | i, o :: rest, t, h, x, cs, K => inN N o.dst = true ∧ match gdL ops t o with
    | some true => VOp P Θ (n0 + i) n0 o.op t h x fun c v h' x' => VL N ops n0 (i + 1) rest (put t o.dst v) h' x' (c :: cs) K
    | some false => VL N ops n0 (i + 1) rest (put t o.dst (.tup [])) h x (.P :: cs) K
    | none => False

/-! The same in pieces, each with its rest as data. -/
def VK (N : Nat) (ops : List Oper) (n0 i : Nat) (d : Option Nat) (rest : List Oper) (t : Fr) (h : Heap) (x : Nat) (cs : List Cls) (K : List Cls → Fr → Heap → Nat → Prop) (r : Res) : Prop :=
  match r with
  | some (c, v, u) => VL P Θ N ops n0 (i + 1) rest (put t d v) (upds h u) x (c :: cs) K
  | none => False

def VC (N : Nat) (ops : List Oper) (n0 i : Nat) (d : Option Nat) (rest : List Oper) (t : Fr) (h : Heap) (x : Nat) (cs : List Cls) (K : List Cls → Fr → Heap → Nat → Prop) (g : FuncId) (args : List AV) : Prop :=
  VCall P Θ (n0 + i) g args h x fun c v h' x' => VL P Θ N ops n0 (i + 1) rest (put t d v) h' x' (c :: cs) K

def VF (N : Nat) (ops : List Oper) (n0 i : Nat) (d : Option Nat) (rest : List Oper) (t : Fr) (h : Heap) (x : Nat) (cs : List Cls) (K : List Cls → Fr → Heap → Nat → Prop) (f : Option AV) (as : Option (List AV)) : Prop :=
  match f, as with
  | some (.fn g caps), some as => VC P Θ N ops n0 i d rest t h x cs K g (as ++ caps)
  | _, _ => False

def VO (N : Nat) (ops : List Oper) (n0 i : Nat) (op : Op) (d : Option Nat) (rest : List Oper) (t : Fr) (h : Heap) (x : Nat) (cs : List Cls) (K : List Cls → Fr → Heap → Nat → Prop) : Prop :=
  match op with
  | .call cl => match cl.callee with
    | .value f => VF P Θ N ops n0 i d rest t h x cs K (ev t f) (evs t cl.args.toList)
    | _ => VK P Θ N ops n0 i d rest t h x cs K (aop Θ (.call cl) t h n0 (n0 + i))
  | op => VK P Θ N ops n0 i d rest t h x cs K (aop Θ op t h n0 (n0 + i))

def VG (N : Nat) (ops : List Oper) (n0 i : Nat) (o : Oper) (rest : List Oper) (t : Fr) (h : Heap) (x : Nat) (cs : List Cls) (K : List Cls → Fr → Heap → Nat → Prop) (b : Option Bool) : Prop :=
  match b with
  | some true => VO P Θ N ops n0 i o.op o.dst rest t h x cs K
  | some false => VL P Θ N ops n0 (i + 1) rest (put t o.dst (.tup [])) h x (.P :: cs) K
  | none => False
end

section
variable {P : Program} {Θ : Tab} {N : Nat} {ops : List Oper} {n0 i : Nat} {o : Oper} {d : Option Nat} {rest : List Oper} {t : Fr} {h : Heap} {x : Nat} {cs : List Cls} {K : List Cls → Fr → Heap → Nat → Prop} {op : Op}

theorem VO_eq : VO P Θ N ops n0 i op d rest t h x cs K = VOp P Θ (n0 + i) n0 op t h x fun c v h' x' => VL P Θ N ops n0 (i + 1) rest (put t d v) h' x' (c :: cs) K := by
  unfold VO VOp
  split
  · split
    · unfold VF VC; rfl
    · unfold VK; rfl
  · rfl

theorem VL_nil : VL P Θ N ops n0 i [] t h x cs K = K cs t h x := rfl

theorem VL_cons : VL P Θ N ops n0 i (o :: rest) t h x cs K = (inN N o.dst = true ∧ VG P Θ N ops n0 i o rest t h x cs K (gdL ops t o)) := by
  rw [VL]
  congr 1

theorem VG_true : VG P Θ N ops n0 i o rest t h x cs K (some true) = VO P Θ N ops n0 i o.op o.dst rest t h x cs K := rfl
theorem VG_false : VG P Θ N ops n0 i o rest t h x cs K (some false) = VL P Θ N ops n0 (i + 1) rest (put t o.dst (.tup [])) h x (.P :: cs) K := rfl
theorem VK_some {c : Cls} {v : AV} {u : Upd} : VK P Θ N ops n0 i d rest t h x cs K (some (c, v, u)) = VL P Θ N ops n0 (i + 1) rest (put t d v) (upds h u) x (c :: cs) K := rfl
theorem VF_some {g : FuncId} {caps as : List AV} : VF P Θ N ops n0 i d rest t h x cs K (some (.fn g caps)) (some as) = VC P Θ N ops n0 i d rest t h x cs K g (as ++ caps) := rfl
end

section
variable {P : Program} {Θ : Tab} {N : Nat} {t : Fr} {h : Heap} {n : Nat} {Q : AEx → Fr → Heap → Nat → Prop}

theorem VL_sound {ops : List Oper} {n0 : Nat} : ∀ (rest : List Oper) (i : Nat) (t : Fr) (h : Heap) (x : Nat) (cs : List Cls) (K : List Cls → Fr → Heap → Nat → Prop), ops.drop i = rest →
    VL P Θ N ops n0 i rest t h x cs K → ∃ cs' t' h' x', Big P Θ (.ops N ⟨ops⟩ n0 (List.range' i rest.length) ⟨t, h, x⟩ cs' ⟨t', h', x'⟩) ∧ K (cs'.reverse ++ cs) t' h' x'
  | [], i, t, h, x, cs, K, _, hv => ⟨[], t, h, x, .nil, hv⟩
  | o :: rest, i, t, h, x, cs, K, hd, hv => by
    have ho : ops[i]? = some o := by
      have := congrArg (fun l => l[0]?) hd; simpa using this
    have ho' : (⟨ops⟩ : Array Oper)[i]? = some o := by simpa using ho
    have hd' : ops.drop (i + 1) = rest := by rw [← List.drop_drop, hd]; rfl
    have hgd : gd ⟨ops⟩ t o = gdL ops t o := by
      unfold gd gdL
      cases o.guard with
      | none => rfl
      | some gw => obtain ⟨g, w⟩ := gw; simp; rfl
    unfold VL at hv
    obtain ⟨hn, hv⟩ := hv
    have go : ∀ (c : Cls) (v : AV) (h' : Heap) (x' : Nat), Big P Θ (.op N ⟨ops⟩ n0 i ⟨t, h, x⟩ c ⟨put t o.dst v, h', x'⟩) → VL P Θ N ops n0 (i + 1) rest (put t o.dst v) h' x' (c :: cs) K →
        ∃ cs' t' h' x', Big P Θ (.ops N ⟨ops⟩ n0 (List.range' i (o :: rest).length) ⟨t, h, x⟩ cs' ⟨t', h', x'⟩) ∧ K (cs'.reverse ++ cs) t' h' x' := by
      intro c v h' x' hb hv
      obtain ⟨cs', t2, h2, x2, b2, k2⟩ := VL_sound rest (i + 1) _ h' x' _ K hd' hv
      refine ⟨c :: cs', t2, h2, x2, ?_, by simpa using k2⟩
      rw [List.length_cons, List.range'_succ]
      exact .cons hb b2
    split at hv
    · rename_i hg
      rw [← hgd] at hg
      have plain : (match aop Θ o.op t h n0 (n0 + i) with
          | some (c, v, u) => VL P Θ N ops n0 (i + 1) rest (put t o.dst v) (upds h u) x (c :: cs) K
          | none => False) → ∃ cs' t' h' x', Big P Θ (.ops N ⟨ops⟩ n0 (List.range' i (o :: rest).length) ⟨t, h, x⟩ cs' ⟨t', h', x'⟩) ∧ K (cs'.reverse ++ cs) t' h' x' := by
        intro hp
        split at hp
        · rename_i c v u ha
          exact go c v _ x (.plain ho' hg hn ha) hp
        · exact hp.elim
      unfold VOp at hv
      split at hv
      · rename_i cl hop
        split at hv
        · rename_i f hc
          split at hv
          · rename_i g caps as hf ha
            rcases hv with ⟨res, h', x', hb, hk⟩ | ⟨live, d, d', as', res, res', h1, x1, hr, hb, hr', hk⟩ | ⟨live, d, d', as', b, len, sz, es, es', h1, x1, hr, hb, hh, hl, hr', hk⟩
            · exact go _ _ _ _ (.callH ho' hg hn hop hc hf ha hb) hk
            · exact go _ _ _ _ (.callP live ho' hg hn hop hc hf ha hr hb hr') hk
            · exact go _ _ _ _ (.callT live ho' hg hn hop hc hf ha hr hb hh hl hr') hk
          · exact hv.elim
        · refine plain ?_
          rw [hop]; exact hv
      · exact plain hv
    · rename_i hg
      rw [← hgd] at hg
      exact go _ _ _ _ (.skip ho' hg hn) hv
    · exact hv.elim

/-- A region in the text's order. -/
theorem W.region {id : Nat} {ops : List Oper} {k : Nat} (hk : ops.length = k) (hv : VL P Θ N ops n 0 ops t h (n + k) [] fun _ t h n => Q .normal t h n) : W P Θ N (.region id ⟨ops⟩ false) t h n Q := by
  subst hk
  obtain ⟨cs, t', h', x', hb, hk⟩ := VL_sound ops 0 t h _ [] _ (by simp) hv
  refine ⟨.normal, t', h', x', .region (cs := cs) ?_ (fun h => by cases h), hk⟩
  rw [List.range_eq_range']
  exact hb

/-- A region in any order. -/
theorem W.draw {id : Nat} {ops : List Oper} {k : Nat} (hk : ops.length = k) (hv : VL P Θ N ops n 0 ops t h (n + k) [] fun cs t h n => drawOK ⟨ops⟩ cs.reverse = true ∧ Q .normal t h n) : W P Θ N (.region id ⟨ops⟩ true) t h n Q := by
  subst hk
  obtain ⟨cs, t', h', x', hb, hd, hk⟩ := VL_sound ops 0 t h _ [] _ (by simp) hv
  refine ⟨.normal, t', h', x', .region (cs := cs) ?_ (fun _ => by simpa using hd), hk⟩
  rw [List.range_eq_range']
  exact hb

theorem W.mono {c : Code} {Q' : AEx → Fr → Heap → Nat → Prop} (hw : W P Θ N c t h n Q) (hq : ∀ e t h n, Q e t h n → Q' e t h n) : W P Θ N c t h n Q' := by
  obtain ⟨e, t', h', n', hb, hk⟩ := hw
  exact ⟨e, t', h', n', hb, hq _ _ _ _ hk⟩

/-- First a, then b. -/
def andThen (K : Fr → Heap → Nat → Prop) (Q : AEx → Fr → Heap → Nat → Prop) : AEx → Fr → Heap → Nat → Prop
  | .normal, t, h, n => K t h n
  | e, t, h, n => Q e t h n

theorem W.seq {a b : Code} (hw : W P Θ N a t h n (andThen (fun t h n => W P Θ N b t h n Q) Q)) : W P Θ N (.seq a b) t h n Q := by
  obtain ⟨e, t', h', n', hb, hk⟩ := hw
  cases e with
  | normal =>
    obtain ⟨e2, t2, h2, n2, b2, k2⟩ := hk
    exact ⟨e2, t2, h2, n2, .seq hb b2, k2⟩
  | exit i => exact ⟨_, _, _, _, .seqx (by simp) hb, hk⟩
  | goto i => exact ⟨_, _, _, _, .seqx (by simp) hb, hk⟩
  | ret => exact ⟨_, _, _, _, .seqx (by simp) hb, hk⟩

theorem W.seqk {a b : Code} (hw : ∀ K : Fr → Heap → Nat → Prop, (∀ t h n, W P Θ N b t h n Q → K t h n) → W P Θ N a t h n (andThen K Q)) : W P Θ N (.seq a b) t h n Q :=
  W.seq (hw _ fun _ _ _ h => h)

theorem W.rseq {id : Nat} {ops : List Oper} {k : Nat} {b : Code} (hk : ops.length = k) (hv : ∀ K : Fr → Heap → Nat → Prop, (∀ t h n, W P Θ N b t h n Q → K t h n) → VL P Θ N ops n 0 ops t h (n + k) [] fun _ t h n => K t h n) : W P Θ N (.seq (.region id ⟨ops⟩ false) b) t h n Q :=
  W.seq (W.region hk (hv _ fun _ _ _ h => h))

theorem W.dseq {id : Nat} {ops : List Oper} {k : Nat} {b : Code} (hk : ops.length = k) (hv : ∀ K : List Cls → Fr → Heap → Nat → Prop, (∀ cs t h n, drawOK ⟨ops⟩ cs.reverse = true → W P Θ N b t h n Q → K cs t h n) → VL P Θ N ops n 0 ops t h (n + k) [] K) : W P Θ N (.seq (.region id ⟨ops⟩ true) b) t h n Q :=
  W.seq (W.draw hk (hv _ fun _ _ _ _ h1 h2 => ⟨h1, h2⟩))

theorem W.cond {c : Operand} {a b : Code} {r : Bool} (hc : ev t c = some (.bool r)) (h1 : r = true → W P Θ N a t h n Q) (h2 : r = false → W P Θ N b t h n Q) : W P Θ N (.cond c a b) t h n Q := by
  cases r with
  | true =>
    obtain ⟨e, t', h', n', hb, hk⟩ := h1 rfl
    exact ⟨_, _, _, _, .condT hc hb, hk⟩
  | false =>
    obtain ⟨e, t', h', n', hb, hk⟩ := h2 rfl
    exact ⟨_, _, _, _, .condF hc hb, hk⟩

theorem W.condT {c : Operand} {a b : Code} (hc : ev t c = some (.bool true)) (h1 : W P Θ N a t h n Q) : W P Θ N (.cond c a b) t h n Q := W.cond hc (fun _ => h1) (fun h => by cases h)
theorem W.condF {c : Operand} {a b : Code} (hc : ev t c = some (.bool false)) (h1 : W P Θ N b t h n Q) : W P Θ N (.cond c a b) t h n Q := W.cond hc (fun h => by cases h) (fun _ => h1)

theorem W.skip (hk : Q .normal t h n) : W P Θ N .skip t h n Q := ⟨_, _, _, _, .cskip, hk⟩
theorem W.label {l : Nat} (hk : Q .normal t h n) : W P Θ N (.label l) t h n Q := ⟨_, _, _, _, .label, hk⟩
theorem W.exit {i : Nat} (hk : Q (.exit i) t h n) : W P Θ N (.exit i) t h n Q := ⟨_, _, _, _, .exit, hk⟩
theorem W.goto {l : Nat} (hk : Q (.goto l) t h n) : W P Θ N (.goto l) t h n Q := ⟨_, _, _, _, .goto, hk⟩
theorem W.ret (hk : Q .ret t h n) : W P Θ N .ret t h n Q := ⟨_, _, _, _, .ret, hk⟩

def inBlock (id : Nat) (Q : AEx → Fr → Heap → Nat → Prop) : AEx → Fr → Heap → Nat → Prop
  | .exit i, t, h, n => if i = id then Q .normal t h n else Q (.exit i) t h n
  | e, t, h, n => Q e t h n

theorem W.block {id : Nat} {c : Code} (hw : W P Θ N c t h n (inBlock id Q)) : W P Θ N (.block id c) t h n Q := by
  obtain ⟨e, t', h', n', hb, hk⟩ := hw
  cases e with
  | normal => exact ⟨_, _, _, _, .block hb, hk⟩
  | exit i =>
    simp only [inBlock] at hk
    split at hk
    · rename_i hi; subst hi; exact ⟨_, _, _, _, .blockX hb, hk⟩
    · rename_i hi; exact ⟨_, _, _, _, .blockE (by simp) (by simpa using hi) hb, hk⟩
  | goto i => exact ⟨_, _, _, _, .blockE (by simp) (by simp) hb, hk⟩
  | ret => exact ⟨_, _, _, _, .blockE (by simp) (by simp) hb, hk⟩

theorem W.loop {c : Code} (hw : W P Θ N c t h n (andThen (fun t h n => W P Θ N (.loop c) t h n Q) Q)) : W P Θ N (.loop c) t h n Q := by
  obtain ⟨e, t', h', n', hb, hk⟩ := hw
  cases e with
  | normal =>
    obtain ⟨e2, t2, h2, n2, b2, k2⟩ := hk
    exact ⟨e2, t2, h2, n2, .loop hb b2, k2⟩
  | exit i => exact ⟨_, _, _, _, .loopE (by simp) hb, hk⟩
  | goto i => exact ⟨_, _, _, _, .loopE (by simp) hb, hk⟩
  | ret => exact ⟨_, _, _, _, .loopE (by simp) hb, hk⟩

/-- A loop, by what holds before each round and a number that goes down. -/
theorem W.while {c : Code} (I : Nat → Fr → Heap → Nat → Prop) (k : Nat) (hI : I k t h n) (hs : ∀ k t h n, I k t h n → W P Θ N c t h n (andThen (fun t' h' n' => ∃ k', k' < k ∧ I k' t' h' n') Q)) : W P Θ N (.loop c) t h n Q := by
  induction k using Nat.strongRecOn generalizing t h n with
  | _ k ih =>
    refine W.loop (W.mono (hs k t h n hI) fun e t' h' n' hq => ?_)
    cases e with
    | normal => obtain ⟨k', hk, hI'⟩ := hq; exact ih k' hk hI'
    | exit i => exact hq
    | goto l => exact hq
    | ret => exact hq

theorem W.scope {c : Code} (hw : WS P Θ N c c t h n Q) : W P Θ N (.scope c) t h n Q := by
  obtain ⟨e, t', h', n', hb, hk⟩ := hw
  exact ⟨_, _, _, _, .scope hb, hk⟩

def jump (P : Program) (Θ : Tab) (N : Nat) (body : Code) (Q : AEx → Fr → Heap → Nat → Prop) : AEx → Fr → Heap → Nat → Prop
  | .goto l, t, h, n => ∃ rest, findLabel body l = some rest ∧ WS P Θ N body rest t h n Q
  | e, t, h, n => Q e t h n

theorem WS.code {body c : Code} (hw : W P Θ N c t h n (jump P Θ N body Q)) : WS P Θ N body c t h n Q := by
  obtain ⟨e, t', h', n', hb, hk⟩ := hw
  cases e with
  | normal => exact ⟨_, _, _, _, .scpD (by simp) hb, hk⟩
  | exit i => exact ⟨_, _, _, _, .scpD (by simp) hb, hk⟩
  | goto l =>
    obtain ⟨rest, hf, e2, t2, h2, n2, b2, k2⟩ := hk
    exact ⟨_, _, _, _, .scpG hb hf b2, k2⟩
  | ret => exact ⟨_, _, _, _, .scpD (by simp) hb, hk⟩

/-- Slots and blocks may be forgotten. -/
theorem W.forget {c : Code} (t1 : Fr) (h1 : Heap) (ht : ∀ x, t1 x = t x ∨ t1 x = .any) (hh : ∀ b, h1 b = h b ∨ h1 b = none) (hw : W P Θ N c t1 h1 n Q) : W P Θ N c t h n Q := by
  obtain ⟨e, t', h', n', hb, hk⟩ := hw
  exact ⟨_, _, _, _, .forget ht hh hb, hk⟩

/-- A function, in the caller's heap. -/
def FH (P : Program) (Θ : Tab) (f : FuncId) (args : List AV) (h : Heap) (n : Nat) (R : AV → Heap → Nat → Prop) : Prop :=
  ∃ res h' n', Big P Θ (.fn f args h n res h' n') ∧ R res h' n'

/-- At a function's end. -/
def atEnd (rs : Array ResultVar) (R : AV → Heap → Nat → Prop) : AEx → Fr → Heap → Nat → Prop
  | .normal, t, h, n | .ret, t, h, n => match ares rs t h with
    | some r => R r h n
    | none => False
  | _, _, _, _ => False

theorem FH.of {f : FuncId} {fn : Func} {c : Code} {rs : Array ResultVar} {args : List AV} {R : AV → Heap → Nat → Prop} (hf : P.funcs[f]? = some fn) (hb : fn.body = some c) (hN : fn.ntmps = N) (hl : args.length ≤ N) (hr : fn.results = rs) (hn : fn.name ≠ "runtime.NumGoroutine")
    (hw : W P Θ N c (fr0 args) h n (atEnd rs R)) : FH P Θ f args h n R := by
  subst hN; subst hr
  obtain ⟨e, t', h', n', hbig, hk⟩ := hw
  have fin : (e = .normal ∨ e = .ret) → (match ares fn.results t' h' with
    | some r => R r h' n'
    | none => False) → FH P Θ f args h n R := by
    intro he hk
    split at hk
    · rename_i r hr
      exact ⟨r, h', n', .fn hf hb hl hn hbig he hr, hk⟩
    · exact hk.elim
  cases e with
  | normal => exact fin (.inl rfl) hk
  | exit i => exact hk.elim
  | goto l => exact hk.elim
  | ret => exact fin (.inr rfl) hk

/-- A function that is called with frozen values, and gives a value that is all its own. -/
def PF (P : Program) (Θ : Tab) (f : FuncId) (args : List AV) (res : AV) : Prop :=
  FH P Θ f args h0 0 fun r h1 _ => ∃ d, ∀ fr, rf fr d h1 r = some res

/-- A function that is called with frozen values, and gives a slice that is all its own. -/
def PT (P : Program) (Θ : Tab) (f : FuncId) (args : List AV) (sz : Nat) (es : List (List AV)) : Prop :=
  FH P Θ f args h0 0 fun r h1 _ => ∃ b, r = .sl b 0 es.length sz ∧ ∃ es0, h1 b = some (.cells es0) ∧ es0.length = es.length ∧ ∃ d, ∀ fr, rfe fr d (upd h1 b none) es0 = some es

variable {s : Nat} {g : FuncId} {args as' : List AV} {x : Nat} {k : Cls → AV → Heap → Nat → Prop}

theorem VCall.heap {R : AV → Heap → Nat → Prop} (hf : FH P Θ g args h x R) (hk : ∀ r h' x', R r h' x' → k .W r h' x') : VCall P Θ s g args h x k := by
  obtain ⟨r, h', n', hb, hR⟩ := hf
  exact .inl ⟨r, h', n', hb, hk _ _ _ hR⟩

/-- Of frozen values. -/
theorem VCall.frz {res : AV} (d : Nat) (hf : PF P Θ g args res) (hr : rfs true d h0 args = some args) (hk : k .L res h x) : VCall P Θ s g args h x k := by
  obtain ⟨r, h', n', hb, d', hR⟩ := hf
  exact .inr (.inl ⟨false, d, d', _, r, res, h', n', hr, hb, hR _, hk⟩)

/-- Of values of which some lead to live blocks. -/
theorem VCall.frzq {res : AV} (d : Nat) (hr : rfs true d h args = some as') (hf : PF P Θ g as' res) (hk : k .Q res h x) : VCall P Θ s g args h x k := by
  obtain ⟨r, h', n', hb, d', hR⟩ := hf
  exact .inr (.inl ⟨true, d, d', _, r, res, h', n', hr, hb, hR _, hk⟩)

theorem VCall.own {sz : Nat} {es : List (List AV)} (d : Nat) (hf : PT P Θ g args sz es) (hr : rfs true d h0 args = some args) (hk : k .L (.sl s 0 es.length sz) (upd h s (some (.cells es))) x) : VCall P Θ s g args h x k := by
  obtain ⟨r, h', n', hb, b, rfl, es0, hh, hl, d', hR⟩ := hf
  exact .inr (.inr ⟨false, d, d', _, b, _, sz, es0, es, h', n', hr, hb, hh, hl.symm, hR _, hk⟩)

theorem VCall.ownq {sz : Nat} {es : List (List AV)} (d : Nat) (hr : rfs true d h args = some as') (hf : PT P Θ g as' sz es) (hk : k .Q (.sl s 0 es.length sz) (upd h s (some (.cells es))) x) : VCall P Θ s g args h x k := by
  obtain ⟨r, h', n', hb, b, rfl, es0, hh, hl, d', hR⟩ := hf
  exact .inr (.inr ⟨true, d, d', _, b, _, sz, es0, es, h', n', hr, hb, hh, hl.symm, hR _, hk⟩)

theorem put_app {t : Fr} {d x : Nat} {v : AV} : put t (some d) v x = if x = d then v else t x := rfl
theorem put_none {t : Fr} {v : AV} : put t none v = t := rfl
theorem fr0_zero {a : AV} {l : List AV} : fr0 (a :: l) 0 = a := rfl
theorem fr0_succ {a : AV} {l : List AV} {x : Nat} : fr0 (a :: l) (x + 1) = fr0 l x := rfl
theorem fr0_nil {x : Nat} : fr0 [] x = .any := rfl

theorem wrap64 {x : Int} (h1 : -9223372036854775808 ≤ x) (h2 : x < 9223372036854775808) : IntKind.wrap .i64 x = x := by
  unfold IntKind.wrap
  simp only [IntKind.bits, IntKind.signed]
  simp
  omega
end
end Go.Av
