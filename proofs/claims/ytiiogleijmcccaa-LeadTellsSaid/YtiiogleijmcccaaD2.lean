/-
  The closed facts of the rows: those of the program alone, each by itself; and how the others are put together. Conditions: none.
-/
import Derived.Test.YtiiogleijmcccaaRows
import Derived.JoinedOf
namespace Go.Av
open Go.Proofs Go.Proofs.Ytiiogleijmcccaa

noncomputable abbrev pj : Program := Try.prog

theorem c2 : laidOutB pj = true := by kernel_rfl
theorem c3 : mapsRowed pj = true := by kernel_rfl
theorem c7 : (pj.stops == []) = true := by kernel_rfl
theorem c9 : (pj.stopKnobs == []) = true := by kernel_rfl
theorem c23 : (false == pj.plainKeys) = true := by kernel_rfl
theorem heard_of {P : Program} (h : (P.stops == []) = true) : P.stopsHeard = true := by
  have h1 : P.stops = [] := by simpa using h
  unfold Program.stops at h1
  have h2 : (P.funcs.toList.filterMap fun fn => (Stop.rowOf fn).map (·.name)) = [] := by
    generalize (P.funcs.toList.filterMap fun fn => (Stop.rowOf fn).map (·.name)) = l at h1
    cases l with
    | nil => rfl
    | cons a l => rw [List.eraseDups_cons] at h1; cases h1
  unfold Program.stopsHeard
  rw [Array.all_eq_true_iff_forall_mem]
  intro fn hfn
  rw [List.filterMap_eq_nil_iff] at h2
  have := h2 fn (by simpa using hfn)
  cases hr : Stop.rowOf fn with
  | none => rfl
  | some r => rw [hr] at this; cases this

theorem c25 : pj.stopsHeard = true := heard_of c7
/-- The signs of the head's words, and how many lie ahead of the roots. -/
def signsA : List Nat := [104, 97, 114, 110, 101, 115, 115, 32, 55, 56, 50, 99, 102, 57, 55, 101, 55, 53, 53, 102, 99, 100, 51, 98, 52, 99, 102, 102, 54, 57, 50, 53, 101, 49, 49, 52, 55, 98, 99, 49,
  53, 98, 99, 49, 52, 51, 55, 98, 54, 100, 100, 98, 50, 52, 50, 98, 55, 51, 56, 55, 53, 102, 102, 99, 53, 97, 99, 49, 57, 48, 100, 50, 32, 99, 117, 116, 32]
def signsB : List Nat := [97, 116, 32, 112, 114, 111, 98, 97, 116, 101, 47, 112, 114, 111, 98, 97, 116, 101, 108, 97, 119, 48, 57, 46, 82, 97, 110, 107, 84, 101, 108, 108, 115, 32, 112, 114, 111, 98, 97, 116,
  101, 47, 112, 114, 111, 98, 97, 116, 101, 108, 97, 119, 48, 57, 46, 82, 97, 110, 107, 83, 104, 111, 119, 115, 32, 112, 114, 111, 98, 97, 116, 101, 47, 112, 114, 111, 98, 97, 116, 101,
  108, 97, 119, 48, 57, 46, 82, 97, 110, 107, 77, 101, 97, 110, 115, 32, 112, 114, 111, 98, 97, 116, 101, 47, 112, 114, 111, 98, 97, 116, 101, 108, 97, 119, 49, 48, 46, 82, 101, 97,
  99, 104, 84, 101, 108, 108, 115, 32, 112, 114, 111, 98, 97, 116, 101, 47, 112, 114, 111, 98, 97, 116, 101, 108, 97, 119, 49, 48, 46, 82, 101, 97, 99, 104, 83, 104, 111, 119, 115, 32,
  112, 114, 111, 98, 97, 116, 101, 47, 112, 114, 111, 98, 97, 116, 101, 108, 97, 119, 49, 48, 46, 82, 101, 97, 99, 104, 79, 110, 32, 112, 114, 111, 98, 97, 116, 101, 47, 112, 114, 111,
  98, 97, 116, 101, 108, 97, 119, 49, 49, 46, 70, 105, 114, 115, 116, 84, 101, 108, 108, 115, 32, 112, 114, 111, 98, 97, 116, 101, 47, 112, 114, 111, 98, 97, 116, 101, 108, 97, 119, 49,
  49, 46, 70, 105, 114, 115, 116, 77, 101, 97, 110, 115, 32, 112, 114, 111, 98, 97, 116, 101, 47, 112, 114, 111, 98, 97, 116, 101, 108, 97, 119, 49, 49, 46, 70, 105, 114, 115, 116, 76,
  101, 97, 115, 116, 32, 112, 114, 111, 98, 97, 116, 101, 47, 112, 114, 111, 98, 97, 116, 101, 108, 97, 119, 49, 50, 46, 70, 111, 108, 108, 111, 119, 84, 101, 108, 108, 115, 32, 112, 114,
  111, 98, 97, 116, 101, 47, 112, 114, 111, 98, 97, 116, 101, 108, 97, 119, 49, 50, 46, 70, 111, 108, 108, 111, 119, 67, 108, 111, 115, 101, 100, 32, 112, 114, 111, 98, 97, 116, 101, 47,
  112, 114, 111, 98, 97, 116, 101, 108, 97, 119, 49, 50, 46, 70, 111, 108, 108, 111, 119, 77, 101, 97, 110, 115, 32, 112, 114, 111, 98, 97, 116, 101, 47, 112, 114, 111, 98, 97, 116, 101,
  108, 97, 119, 49, 53, 46, 84, 114, 101, 101, 84, 101, 108, 108, 115, 32, 112, 114, 111, 98, 97, 116, 101, 47, 112, 114, 111, 98, 97, 116, 101, 108, 97, 119, 49, 53, 46, 84, 114, 101,
  101, 67, 111, 109, 101, 115, 32, 112, 114, 111, 98, 97, 116, 101, 47, 112, 114, 111, 98, 97, 116, 101, 108, 97, 119, 49, 53, 46, 84, 114, 101, 101, 65, 112, 97, 114, 116, 32, 112, 114,
  111, 98, 97, 116, 101, 47, 112, 114, 111, 98, 97, 116, 101, 108, 97, 119, 49, 52, 46, 83, 111, 117, 110, 100, 84, 101, 108, 108, 115, 32, 112, 114, 111, 98, 97, 116, 101, 47, 112, 114,
  111, 98, 97, 116, 101, 108, 97, 119, 49, 52, 46, 83, 111, 117, 110, 100, 83, 104, 111, 119, 115, 32, 112, 114, 111, 98, 97, 116, 101, 47, 112, 114, 111, 98, 97, 116, 101, 108, 97, 119,
  49, 54, 46, 83, 112, 97, 110, 84, 101, 108, 108, 115, 32, 112, 114, 111, 98, 97, 116, 101, 47, 112, 114, 111, 98, 97, 116, 101, 108, 97, 119, 49, 54, 46, 83, 112, 97, 110, 79, 110,
  101, 32, 112, 114, 111, 98, 97, 116, 101, 47, 112, 114, 111, 98, 97, 116, 101, 108, 97, 119, 49, 54, 46, 83, 112, 97, 110, 79, 118, 101, 114, 32, 112, 114, 111, 98, 97, 116, 101, 47,
  112, 114, 111, 98, 97, 116, 101, 108, 97, 119, 49, 55, 46, 76, 101, 97, 100, 84, 101, 108, 108, 115, 32, 112, 114, 111, 98, 97, 116, 101, 47, 112, 114, 111, 98, 97, 116, 101, 108, 97,
  119, 49, 55, 46, 76, 101, 97, 100, 67, 111, 109, 101, 115, 32, 112, 114, 111, 98, 97, 116, 101, 47, 112, 114, 111, 98, 97, 116, 101, 108, 97, 119, 49, 55, 46, 76, 101, 97, 100, 69,
  110, 100, 115, 32, 112, 114, 111, 98, 97, 116, 101, 47, 112, 114, 111, 98, 97, 116, 101, 108, 97, 119, 49, 55, 46, 76, 101, 97, 100, 66, 121]

theorem init_is : pj.initOrder = String.ofList (signsA.map Char.ofNat ++ signsB.map Char.ofNat) := by kernel_rfl

theorem w0 (R : List Char) : behindMainWord (wordsSigns (signsA.map Char.ofNat ++ R)) = "cut".toList :: wordsSigns R := by kernel_rfl

theorem w1 : ∃ rest, behindMainWord (wordsSigns pj.initOrder.toList) = "cut".toList :: rest := by
  rw [init_is, String.toList_ofList]
  exact ⟨_, w0 _⟩

theorem w2 (rest : List (List Char)) : stripLifts liftWords ("cut".toList :: rest) = ([], "cut".toList :: rest) := by kernel_rfl

theorem w3 : pj.laysLater = false := by kernel_rfl
theorem w4 : pj.bearsReflect = false := by kernel_rfl
theorem w5 : pj.doorFits [] = true := by kernel_rfl

theorem enter_of {P : Program} {rest : List (List Char)} (h : behindMainWord (wordsSigns P.initOrder.toList) = "cut".toList :: rest) (h3 : P.laysLater = false) (h4 : P.bearsReflect = false) (h5 : P.doorFits [] = true) : P.mayEnter = true := by
  unfold Program.mayEnter
  simp only [h, w2, h3, h4, h5]
  kernel_rfl

theorem lifts_of {P : Program} {rest : List (List Char)} (h : behindMainWord (wordsSigns P.initOrder.toList) = "cut".toList :: rest) : P.headLifts = [] := by
  unfold Program.headLifts
  simp only [h, w2]
  kernel_rfl

theorem final_of {P : Program} {rest : List (List Char)} (h : behindMainWord (wordsSigns P.initOrder.toList) = "cut".toList :: rest) : P.liftsFinal = false := by
  unfold Program.liftsFinal
  simp only [h, lifts_of h]
  kernel_rfl

theorem make_of {P : Program} {rest : List (List Char)} (h : behindMainWord (wordsSigns P.initOrder.toList) = "cut".toList :: rest) : P.make = some .cut := by
  unfold Program.make
  simp only [h]
  kernel_rfl

theorem c26 : pj.mayEnter = true := by
  obtain ⟨rest, h⟩ := w1
  exact enter_of h w3 w4 w5

theorem c27 : pj.liftsFinal = false := by
  obtain ⟨rest, h⟩ := w1
  exact final_of h

theorem c28 : pj.make = some .cut := by
  obtain ⟨rest, h⟩ := w1
  exact make_of h

theorem joined_of {f : FuncId} {fn : Func} {s : ChangeSpec} {c : OpenClaim} (k1 : (c.wf (OpenSpec.ofChange s) && fn.params.all (pj.readableRec ·) && namedTie pj c.named s.vars && (c.stops == []) && (c.knobs == [])) = true)
    (k10 : (c.inPlace == pj.inPlace f) = true) (k11 : (c.unfollowed == pj.unfollowed f) = true) (k12 : (c.recurses == pj.recurses f) = true) (k13 : (c.named == pj.varsNamed f) = true)
    (k14 : ((c.maps == (fn.params.toList ++ s.plain.varTypes pj).any (pj.mapsRec ·)) && (c.ifaces == (fn.params.toList ++ s.plain.varTypes pj).any (pj.ifacesRec ·)) && (c.mapsOut == pj.mapsAmong fn.resultTypes.toList) &&
      (c.loops == (fn.params.toList ++ s.plain.varTypes pj).any (pj.loopsFrom ·)) && (c.wideKeys == (fn.params.toList ++ s.plain.varTypes pj ++ fn.resultTypes.toList).any (pj.wideKeysFrom ·))) = true)
    (k19 : (s.vars.all (pj.varReadable ·) && fn.resultTypes.all (fun t => pj.readableRec t && decide (t < pj.types.size)) && (c.ifacesOut == fn.resultTypes.toList.any (pj.ifacesRec ·)) && (c.loopsOut == fn.resultTypes.toList.any (pj.loopsFrom ·))) = true)
    (k23 : c.plainKeys = false) (k24 : (c.shortTexts.isNone && (c.lifted == false) && (some .cut == some c.make) && c.domain.isEmpty && (c.kinds == []) && (c.pinned == c.pinnedBy)) = true)
    (k29 : ((c.veiled == (fn.params.toList ++ s.plain.varTypes pj ++ fn.resultTypes.toList).any (pj.veiledRec ·)) && c.veiledFits pj fn.params.toList (fn.params.toList ++ s.plain.varTypes pj ++ fn.resultTypes.toList)) = true) :
    joinedFacts pj f fn s c = true := by
  simp only [Bool.and_eq_true] at k1 k14 k19 k24 k29
  obtain ⟨⟨⟨⟨a1, a2⟩, a3⟩, a4⟩, a5⟩ := k1
  obtain ⟨⟨⟨⟨b1, b2⟩, b3⟩, b4⟩, b5⟩ := k14
  obtain ⟨⟨⟨d1, d2⟩, d3⟩, d4⟩ := k19
  obtain ⟨⟨⟨⟨⟨e1, e2⟩, e3⟩, e0⟩, e4⟩, e5⟩ := k24
  obtain ⟨g1, g2⟩ := k29
  unfold joinedFacts
  rw [a1, c2, c3, a2, a3, a4, c7, a5, c9, k10, k11, k12, k13, b1, b2, b3, b4, b5, d1, d2, d3, d4, k23, c23, e1, c25, c26, c27, c28, e2, e3, e0, if_pos rfl, e4, e5, g1, g2]
  rfl

end Go.Av
