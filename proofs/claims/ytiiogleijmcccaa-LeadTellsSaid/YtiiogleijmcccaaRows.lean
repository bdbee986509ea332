/-
  No cell of these rows narrows 'for every input' (looked for: loops, veiled, ifaces, maps, wideKeys, modest, calm, conditions, laid).
  DERIVED. THE GIVEN ROWS OF THIS SEAT. 24 by the template 'for every input the law returns true; each argument reads behind the call as it read before'; 0 by the template 'total and deterministic' (their statements: YtiiogleijmcccaaTotals.lean).
  GIVEN WITH THE SEED: the statements are not yours to turn. If you find one false, say at which input.
  Laid BY PROGRAM, IN A SANDBOX (cutbox-rows.mjs): the forced cells as the released guide's own fill.sh prints them over the translation 174d0e284c891944… (all of the seat's roots in one cut). By AI agents, Wed Nov 11 2026. No macro, syntax, notation, axiom, sorry.
-/
import Derived.Test.YtiiogleijmcccaaChecked
import GoSem.Claim
import GoSem.ClaimJoined
import GoSem.ClaimMapViews
import Derived.JoinedTies
import Derived.KernelRfl
namespace Go.Proofs.Ytiiogleijmcccaa
/- THE CELL 'sum', in the pinned program and in every row, IS THE sha256 OF THE DUMP (.gsa) THAT YtiiogleijmcccaaProg.lean LOADS. Nothing in Lean hashes anything: it is a label: what it is worth is what the hold of that sum in a sandbox is worth. -/
noncomputable def Try.pinned : Pinned := { name := "ytiiogleijmcccaa", sum := "174d0e284c891944072874c72d9a76843a637857ae5c7daca019bae546a8c8db", checked := Try.checked }
namespace Rows
def none {H : Type} : Left H := { results := [], args := [] }

/-- 'probatelaw09.RankTells': WHATEVER THE INPUT: true; the input reads as it did. -/
def rankTellsSpec : ChangeSpec := { name := "rankTells", fn := fun _ => fun
  | [d1, d2, d3] => { results := [.lit (.bool true)], args := [d1, d2, d3] }
  | _ => none }
def rankTellsRow : OpenClaim := { program := "ytiiogleijmcccaa", sum := "174d0e284c891944072874c72d9a76843a637857ae5c7daca019bae546a8c8db", func := "probate/probatelaw09.RankTells", spec := "rankTells", unfollowed := true, recurses := true, plainKeys := false, apart := false }
def RankTellsSaid : Prop := rankTellsRow.holds Try.pinned (OpenSpec.ofChange rankTellsSpec)

/-- ITS FALSE NEIGHBOUR: 'it returns false'. Refute it at one input. -/
def rankTellsWrong : ChangeSpec := { name := "rankTells", fn := fun _ => fun
  | [d1, d2, d3] => { results := [.lit (.bool false)], args := [d1, d2, d3] }
  | _ => none }
def RankTellsWrongFalsely : Prop := rankTellsRow.holds Try.pinned (OpenSpec.ofChange rankTellsWrong)

/-- 'probatelaw09.RankShows': WHATEVER THE INPUT: true; the input reads as it did. -/
def rankShowsSpec : ChangeSpec := { name := "rankShows", fn := fun _ => fun
  | [d1, d2, d3] => { results := [.lit (.bool true)], args := [d1, d2, d3] }
  | _ => none }
def rankShowsRow : OpenClaim := { program := "ytiiogleijmcccaa", sum := "174d0e284c891944072874c72d9a76843a637857ae5c7daca019bae546a8c8db", func := "probate/probatelaw09.RankShows", spec := "rankShows", unfollowed := true, recurses := true, plainKeys := false, apart := false }
def RankShowsSaid : Prop := rankShowsRow.holds Try.pinned (OpenSpec.ofChange rankShowsSpec)

/-- ITS FALSE NEIGHBOUR: 'it returns false'. Refute it at one input. -/
def rankShowsWrong : ChangeSpec := { name := "rankShows", fn := fun _ => fun
  | [d1, d2, d3] => { results := [.lit (.bool false)], args := [d1, d2, d3] }
  | _ => none }
def RankShowsWrongFalsely : Prop := rankShowsRow.holds Try.pinned (OpenSpec.ofChange rankShowsWrong)

/-- 'probatelaw09.RankMeans': WHATEVER THE INPUT: true; the input reads as it did. -/
def rankMeansSpec : ChangeSpec := { name := "rankMeans", fn := fun _ => fun
  | [d1, d2] => { results := [.lit (.bool true)], args := [d1, d2] }
  | _ => none }
def rankMeansRow : OpenClaim := { program := "ytiiogleijmcccaa", sum := "174d0e284c891944072874c72d9a76843a637857ae5c7daca019bae546a8c8db", func := "probate/probatelaw09.RankMeans", spec := "rankMeans", unfollowed := true, recurses := true, plainKeys := false, apart := false }
def RankMeansSaid : Prop := rankMeansRow.holds Try.pinned (OpenSpec.ofChange rankMeansSpec)

/-- ITS FALSE NEIGHBOUR: 'it returns false'. Refute it at one input. -/
def rankMeansWrong : ChangeSpec := { name := "rankMeans", fn := fun _ => fun
  | [d1, d2] => { results := [.lit (.bool false)], args := [d1, d2] }
  | _ => none }
def RankMeansWrongFalsely : Prop := rankMeansRow.holds Try.pinned (OpenSpec.ofChange rankMeansWrong)

/-- 'probatelaw10.ReachTells': WHATEVER THE INPUT: true; the input reads as it did. -/
def reachTellsSpec : ChangeSpec := { name := "reachTells", fn := fun _ => fun
  | [d1, d2] => { results := [.lit (.bool true)], args := [d1, d2] }
  | _ => none }
def reachTellsRow : OpenClaim := { program := "ytiiogleijmcccaa", sum := "174d0e284c891944072874c72d9a76843a637857ae5c7daca019bae546a8c8db", func := "probate/probatelaw10.ReachTells", spec := "reachTells", unfollowed := true, recurses := true, plainKeys := false, apart := false }
def ReachTellsSaid : Prop := reachTellsRow.holds Try.pinned (OpenSpec.ofChange reachTellsSpec)

/-- ITS FALSE NEIGHBOUR: 'it returns false'. Refute it at one input. -/
def reachTellsWrong : ChangeSpec := { name := "reachTells", fn := fun _ => fun
  | [d1, d2] => { results := [.lit (.bool false)], args := [d1, d2] }
  | _ => none }
def ReachTellsWrongFalsely : Prop := reachTellsRow.holds Try.pinned (OpenSpec.ofChange reachTellsWrong)

/-- 'probatelaw10.ReachShows': WHATEVER THE INPUT: true; the input reads as it did. -/
def reachShowsSpec : ChangeSpec := { name := "reachShows", fn := fun _ => fun
  | [d1, d2] => { results := [.lit (.bool true)], args := [d1, d2] }
  | _ => none }
def reachShowsRow : OpenClaim := { program := "ytiiogleijmcccaa", sum := "174d0e284c891944072874c72d9a76843a637857ae5c7daca019bae546a8c8db", func := "probate/probatelaw10.ReachShows", spec := "reachShows", unfollowed := true, recurses := true, plainKeys := false, apart := false }
def ReachShowsSaid : Prop := reachShowsRow.holds Try.pinned (OpenSpec.ofChange reachShowsSpec)

/-- ITS FALSE NEIGHBOUR: 'it returns false'. Refute it at one input. -/
def reachShowsWrong : ChangeSpec := { name := "reachShows", fn := fun _ => fun
  | [d1, d2] => { results := [.lit (.bool false)], args := [d1, d2] }
  | _ => none }
def ReachShowsWrongFalsely : Prop := reachShowsRow.holds Try.pinned (OpenSpec.ofChange reachShowsWrong)

/-- 'probatelaw10.ReachOn': WHATEVER THE INPUT: true; the input reads as it did. -/
def reachOnSpec : ChangeSpec := { name := "reachOn", fn := fun _ => fun
  | [d] => { results := [.lit (.bool true)], args := [d] }
  | _ => none }
def reachOnRow : OpenClaim := { program := "ytiiogleijmcccaa", sum := "174d0e284c891944072874c72d9a76843a637857ae5c7daca019bae546a8c8db", func := "probate/probatelaw10.ReachOn", spec := "reachOn", unfollowed := true, recurses := true, plainKeys := false, apart := false }
def ReachOnSaid : Prop := reachOnRow.holds Try.pinned (OpenSpec.ofChange reachOnSpec)

/-- ITS FALSE NEIGHBOUR: 'it returns false'. Refute it at one input. -/
def reachOnWrong : ChangeSpec := { name := "reachOn", fn := fun _ => fun
  | [d] => { results := [.lit (.bool false)], args := [d] }
  | _ => none }
def ReachOnWrongFalsely : Prop := reachOnRow.holds Try.pinned (OpenSpec.ofChange reachOnWrong)

/-- 'probatelaw11.FirstTells': WHATEVER THE INPUT: true; the input reads as it did. -/
def firstTellsSpec : ChangeSpec := { name := "firstTells", fn := fun _ => fun
  | [d1, d2] => { results := [.lit (.bool true)], args := [d1, d2] }
  | _ => none }
def firstTellsRow : OpenClaim := { program := "ytiiogleijmcccaa", sum := "174d0e284c891944072874c72d9a76843a637857ae5c7daca019bae546a8c8db", func := "probate/probatelaw11.FirstTells", spec := "firstTells", unfollowed := true, recurses := true, plainKeys := false, apart := false }
def FirstTellsSaid : Prop := firstTellsRow.holds Try.pinned (OpenSpec.ofChange firstTellsSpec)

/-- ITS FALSE NEIGHBOUR: 'it returns false'. Refute it at one input. -/
def firstTellsWrong : ChangeSpec := { name := "firstTells", fn := fun _ => fun
  | [d1, d2] => { results := [.lit (.bool false)], args := [d1, d2] }
  | _ => none }
def FirstTellsWrongFalsely : Prop := firstTellsRow.holds Try.pinned (OpenSpec.ofChange firstTellsWrong)

/-- 'probatelaw11.FirstMeans': WHATEVER THE INPUT: true; the input reads as it did. -/
def firstMeansSpec : ChangeSpec := { name := "firstMeans", fn := fun _ => fun
  | [d1, d2] => { results := [.lit (.bool true)], args := [d1, d2] }
  | _ => none }
def firstMeansRow : OpenClaim := { program := "ytiiogleijmcccaa", sum := "174d0e284c891944072874c72d9a76843a637857ae5c7daca019bae546a8c8db", func := "probate/probatelaw11.FirstMeans", spec := "firstMeans", unfollowed := true, recurses := true, plainKeys := false, apart := false }
def FirstMeansSaid : Prop := firstMeansRow.holds Try.pinned (OpenSpec.ofChange firstMeansSpec)

/-- ITS FALSE NEIGHBOUR: 'it returns false'. Refute it at one input. -/
def firstMeansWrong : ChangeSpec := { name := "firstMeans", fn := fun _ => fun
  | [d1, d2] => { results := [.lit (.bool false)], args := [d1, d2] }
  | _ => none }
def FirstMeansWrongFalsely : Prop := firstMeansRow.holds Try.pinned (OpenSpec.ofChange firstMeansWrong)

/-- 'probatelaw11.FirstLeast': WHATEVER THE INPUT: true; the input reads as it did. -/
def firstLeastSpec : ChangeSpec := { name := "firstLeast", fn := fun _ => fun
  | [d] => { results := [.lit (.bool true)], args := [d] }
  | _ => none }
def firstLeastRow : OpenClaim := { program := "ytiiogleijmcccaa", sum := "174d0e284c891944072874c72d9a76843a637857ae5c7daca019bae546a8c8db", func := "probate/probatelaw11.FirstLeast", spec := "firstLeast", unfollowed := true, recurses := true, plainKeys := false, apart := false }
def FirstLeastSaid : Prop := firstLeastRow.holds Try.pinned (OpenSpec.ofChange firstLeastSpec)

/-- ITS FALSE NEIGHBOUR: 'it returns false'. Refute it at one input. -/
def firstLeastWrong : ChangeSpec := { name := "firstLeast", fn := fun _ => fun
  | [d] => { results := [.lit (.bool false)], args := [d] }
  | _ => none }
def FirstLeastWrongFalsely : Prop := firstLeastRow.holds Try.pinned (OpenSpec.ofChange firstLeastWrong)

/-- 'probatelaw12.FollowTells': WHATEVER THE INPUT: true; the input reads as it did. -/
def followTellsSpec : ChangeSpec := { name := "followTells", fn := fun _ => fun
  | [d] => { results := [.lit (.bool true)], args := [d] }
  | _ => none }
def followTellsRow : OpenClaim := { program := "ytiiogleijmcccaa", sum := "174d0e284c891944072874c72d9a76843a637857ae5c7daca019bae546a8c8db", func := "probate/probatelaw12.FollowTells", spec := "followTells", unfollowed := true, recurses := true, plainKeys := false, apart := false }
def FollowTellsSaid : Prop := followTellsRow.holds Try.pinned (OpenSpec.ofChange followTellsSpec)

/-- ITS FALSE NEIGHBOUR: 'it returns false'. Refute it at one input. -/
def followTellsWrong : ChangeSpec := { name := "followTells", fn := fun _ => fun
  | [d] => { results := [.lit (.bool false)], args := [d] }
  | _ => none }
def FollowTellsWrongFalsely : Prop := followTellsRow.holds Try.pinned (OpenSpec.ofChange followTellsWrong)

/-- 'probatelaw12.FollowClosed': WHATEVER THE INPUT: true; the input reads as it did. -/
def followClosedSpec : ChangeSpec := { name := "followClosed", fn := fun _ => fun
  | [d] => { results := [.lit (.bool true)], args := [d] }
  | _ => none }
def followClosedRow : OpenClaim := { program := "ytiiogleijmcccaa", sum := "174d0e284c891944072874c72d9a76843a637857ae5c7daca019bae546a8c8db", func := "probate/probatelaw12.FollowClosed", spec := "followClosed", unfollowed := true, recurses := true, plainKeys := false, apart := false }
def FollowClosedSaid : Prop := followClosedRow.holds Try.pinned (OpenSpec.ofChange followClosedSpec)

/-- ITS FALSE NEIGHBOUR: 'it returns false'. Refute it at one input. -/
def followClosedWrong : ChangeSpec := { name := "followClosed", fn := fun _ => fun
  | [d] => { results := [.lit (.bool false)], args := [d] }
  | _ => none }
def FollowClosedWrongFalsely : Prop := followClosedRow.holds Try.pinned (OpenSpec.ofChange followClosedWrong)

/-- 'probatelaw12.FollowMeans': WHATEVER THE INPUT: true; the input reads as it did. -/
def followMeansSpec : ChangeSpec := { name := "followMeans", fn := fun _ => fun
  | [d1, d2] => { results := [.lit (.bool true)], args := [d1, d2] }
  | _ => none }
def followMeansRow : OpenClaim := { program := "ytiiogleijmcccaa", sum := "174d0e284c891944072874c72d9a76843a637857ae5c7daca019bae546a8c8db", func := "probate/probatelaw12.FollowMeans", spec := "followMeans", unfollowed := true, recurses := true, plainKeys := false, apart := false }
def FollowMeansSaid : Prop := followMeansRow.holds Try.pinned (OpenSpec.ofChange followMeansSpec)

/-- ITS FALSE NEIGHBOUR: 'it returns false'. Refute it at one input. -/
def followMeansWrong : ChangeSpec := { name := "followMeans", fn := fun _ => fun
  | [d1, d2] => { results := [.lit (.bool false)], args := [d1, d2] }
  | _ => none }
def FollowMeansWrongFalsely : Prop := followMeansRow.holds Try.pinned (OpenSpec.ofChange followMeansWrong)

/-- 'probatelaw15.TreeTells': WHATEVER THE INPUT: true; the input reads as it did. -/
def treeTellsSpec : ChangeSpec := { name := "treeTells", fn := fun _ => fun
  | [d1, d2, d3] => { results := [.lit (.bool true)], args := [d1, d2, d3] }
  | _ => none }
def treeTellsRow : OpenClaim := { program := "ytiiogleijmcccaa", sum := "174d0e284c891944072874c72d9a76843a637857ae5c7daca019bae546a8c8db", func := "probate/probatelaw15.TreeTells", spec := "treeTells", unfollowed := true, recurses := true, plainKeys := false, apart := false }
def TreeTellsSaid : Prop := treeTellsRow.holds Try.pinned (OpenSpec.ofChange treeTellsSpec)

/-- ITS FALSE NEIGHBOUR: 'it returns false'. Refute it at one input. -/
def treeTellsWrong : ChangeSpec := { name := "treeTells", fn := fun _ => fun
  | [d1, d2, d3] => { results := [.lit (.bool false)], args := [d1, d2, d3] }
  | _ => none }
def TreeTellsWrongFalsely : Prop := treeTellsRow.holds Try.pinned (OpenSpec.ofChange treeTellsWrong)

/-- 'probatelaw15.TreeComes': WHATEVER THE INPUT: true; the input reads as it did. -/
def treeComesSpec : ChangeSpec := { name := "treeComes", fn := fun _ => fun
  | [d1, d2] => { results := [.lit (.bool true)], args := [d1, d2] }
  | _ => none }
def treeComesRow : OpenClaim := { program := "ytiiogleijmcccaa", sum := "174d0e284c891944072874c72d9a76843a637857ae5c7daca019bae546a8c8db", func := "probate/probatelaw15.TreeComes", spec := "treeComes", unfollowed := true, recurses := true, plainKeys := false, apart := false }
def TreeComesSaid : Prop := treeComesRow.holds Try.pinned (OpenSpec.ofChange treeComesSpec)

/-- ITS FALSE NEIGHBOUR: 'it returns false'. Refute it at one input. -/
def treeComesWrong : ChangeSpec := { name := "treeComes", fn := fun _ => fun
  | [d1, d2] => { results := [.lit (.bool false)], args := [d1, d2] }
  | _ => none }
def TreeComesWrongFalsely : Prop := treeComesRow.holds Try.pinned (OpenSpec.ofChange treeComesWrong)

/-- 'probatelaw15.TreeApart': WHATEVER THE INPUT: true; the input reads as it did. -/
def treeApartSpec : ChangeSpec := { name := "treeApart", fn := fun _ => fun
  | [d1, d2, d3] => { results := [.lit (.bool true)], args := [d1, d2, d3] }
  | _ => none }
def treeApartRow : OpenClaim := { program := "ytiiogleijmcccaa", sum := "174d0e284c891944072874c72d9a76843a637857ae5c7daca019bae546a8c8db", func := "probate/probatelaw15.TreeApart", spec := "treeApart", unfollowed := true, recurses := true, plainKeys := false, apart := false }
def TreeApartSaid : Prop := treeApartRow.holds Try.pinned (OpenSpec.ofChange treeApartSpec)

/-- ITS FALSE NEIGHBOUR: 'it returns false'. Refute it at one input. -/
def treeApartWrong : ChangeSpec := { name := "treeApart", fn := fun _ => fun
  | [d1, d2, d3] => { results := [.lit (.bool false)], args := [d1, d2, d3] }
  | _ => none }
def TreeApartWrongFalsely : Prop := treeApartRow.holds Try.pinned (OpenSpec.ofChange treeApartWrong)

/-- 'probatelaw14.SoundTells': WHATEVER THE INPUT: true; the input reads as it did. -/
def soundTellsSpec : ChangeSpec := { name := "soundTells", fn := fun _ => fun
  | [d] => { results := [.lit (.bool true)], args := [d] }
  | _ => none }
def soundTellsRow : OpenClaim := { program := "ytiiogleijmcccaa", sum := "174d0e284c891944072874c72d9a76843a637857ae5c7daca019bae546a8c8db", func := "probate/probatelaw14.SoundTells", spec := "soundTells", unfollowed := true, recurses := true, plainKeys := false, apart := false }
def SoundTellsSaid : Prop := soundTellsRow.holds Try.pinned (OpenSpec.ofChange soundTellsSpec)

/-- ITS FALSE NEIGHBOUR: 'it returns false'. Refute it at one input. -/
def soundTellsWrong : ChangeSpec := { name := "soundTells", fn := fun _ => fun
  | [d] => { results := [.lit (.bool false)], args := [d] }
  | _ => none }
def SoundTellsWrongFalsely : Prop := soundTellsRow.holds Try.pinned (OpenSpec.ofChange soundTellsWrong)

/-- 'probatelaw14.SoundShows': WHATEVER THE INPUT: true; the input reads as it did. -/
def soundShowsSpec : ChangeSpec := { name := "soundShows", fn := fun _ => fun
  | [d] => { results := [.lit (.bool true)], args := [d] }
  | _ => none }
def soundShowsRow : OpenClaim := { program := "ytiiogleijmcccaa", sum := "174d0e284c891944072874c72d9a76843a637857ae5c7daca019bae546a8c8db", func := "probate/probatelaw14.SoundShows", spec := "soundShows", unfollowed := true, recurses := true, plainKeys := false, apart := false }
def SoundShowsSaid : Prop := soundShowsRow.holds Try.pinned (OpenSpec.ofChange soundShowsSpec)

/-- ITS FALSE NEIGHBOUR: 'it returns false'. Refute it at one input. -/
def soundShowsWrong : ChangeSpec := { name := "soundShows", fn := fun _ => fun
  | [d] => { results := [.lit (.bool false)], args := [d] }
  | _ => none }
def SoundShowsWrongFalsely : Prop := soundShowsRow.holds Try.pinned (OpenSpec.ofChange soundShowsWrong)

/-- 'probatelaw16.SpanTells': WHATEVER THE INPUT: true; the input reads as it did. -/
def spanTellsSpec : ChangeSpec := { name := "spanTells", fn := fun _ => fun
  | [d1, d2] => { results := [.lit (.bool true)], args := [d1, d2] }
  | _ => none }
def spanTellsRow : OpenClaim := { program := "ytiiogleijmcccaa", sum := "174d0e284c891944072874c72d9a76843a637857ae5c7daca019bae546a8c8db", func := "probate/probatelaw16.SpanTells", spec := "spanTells", unfollowed := true, recurses := true, plainKeys := false, apart := false }
def SpanTellsSaid : Prop := spanTellsRow.holds Try.pinned (OpenSpec.ofChange spanTellsSpec)

/-- ITS FALSE NEIGHBOUR: 'it returns false'. Refute it at one input. -/
def spanTellsWrong : ChangeSpec := { name := "spanTells", fn := fun _ => fun
  | [d1, d2] => { results := [.lit (.bool false)], args := [d1, d2] }
  | _ => none }
def SpanTellsWrongFalsely : Prop := spanTellsRow.holds Try.pinned (OpenSpec.ofChange spanTellsWrong)

/-- 'probatelaw16.SpanOne': WHATEVER THE INPUT: true; the input reads as it did. -/
def spanOneSpec : ChangeSpec := { name := "spanOne", fn := fun _ => fun
  | [d1, d2, d3] => { results := [.lit (.bool true)], args := [d1, d2, d3] }
  | _ => none }
def spanOneRow : OpenClaim := { program := "ytiiogleijmcccaa", sum := "174d0e284c891944072874c72d9a76843a637857ae5c7daca019bae546a8c8db", func := "probate/probatelaw16.SpanOne", spec := "spanOne", unfollowed := true, recurses := true, plainKeys := false, apart := false }
def SpanOneSaid : Prop := spanOneRow.holds Try.pinned (OpenSpec.ofChange spanOneSpec)

/-- ITS FALSE NEIGHBOUR: 'it returns false'. Refute it at one input. -/
def spanOneWrong : ChangeSpec := { name := "spanOne", fn := fun _ => fun
  | [d1, d2, d3] => { results := [.lit (.bool false)], args := [d1, d2, d3] }
  | _ => none }
def SpanOneWrongFalsely : Prop := spanOneRow.holds Try.pinned (OpenSpec.ofChange spanOneWrong)

/-- 'probatelaw16.SpanOver': WHATEVER THE INPUT: true; the input reads as it did. -/
def spanOverSpec : ChangeSpec := { name := "spanOver", fn := fun _ => fun
  | [d1, d2, d3] => { results := [.lit (.bool true)], args := [d1, d2, d3] }
  | _ => none }
def spanOverRow : OpenClaim := { program := "ytiiogleijmcccaa", sum := "174d0e284c891944072874c72d9a76843a637857ae5c7daca019bae546a8c8db", func := "probate/probatelaw16.SpanOver", spec := "spanOver", unfollowed := true, recurses := true, plainKeys := false, apart := false }
def SpanOverSaid : Prop := spanOverRow.holds Try.pinned (OpenSpec.ofChange spanOverSpec)

/-- ITS FALSE NEIGHBOUR: 'it returns false'. Refute it at one input. -/
def spanOverWrong : ChangeSpec := { name := "spanOver", fn := fun _ => fun
  | [d1, d2, d3] => { results := [.lit (.bool false)], args := [d1, d2, d3] }
  | _ => none }
def SpanOverWrongFalsely : Prop := spanOverRow.holds Try.pinned (OpenSpec.ofChange spanOverWrong)

/-- 'probatelaw17.LeadTells': WHATEVER THE INPUT: true; the input reads as it did. -/
def leadTellsSpec : ChangeSpec := { name := "leadTells", fn := fun _ => fun
  | [d1, d2, d3] => { results := [.lit (.bool true)], args := [d1, d2, d3] }
  | _ => none }
def leadTellsRow : OpenClaim := { program := "ytiiogleijmcccaa", sum := "174d0e284c891944072874c72d9a76843a637857ae5c7daca019bae546a8c8db", func := "probate/probatelaw17.LeadTells", spec := "leadTells", unfollowed := true, recurses := true, plainKeys := false, apart := false }
def LeadTellsSaid : Prop := leadTellsRow.holds Try.pinned (OpenSpec.ofChange leadTellsSpec)

/-- ITS FALSE NEIGHBOUR: 'it returns false'. Refute it at one input. -/
def leadTellsWrong : ChangeSpec := { name := "leadTells", fn := fun _ => fun
  | [d1, d2, d3] => { results := [.lit (.bool false)], args := [d1, d2, d3] }
  | _ => none }
def LeadTellsWrongFalsely : Prop := leadTellsRow.holds Try.pinned (OpenSpec.ofChange leadTellsWrong)

/-- 'probatelaw17.LeadComes': WHATEVER THE INPUT: true; the input reads as it did. -/
def leadComesSpec : ChangeSpec := { name := "leadComes", fn := fun _ => fun
  | [d1, d2] => { results := [.lit (.bool true)], args := [d1, d2] }
  | _ => none }
def leadComesRow : OpenClaim := { program := "ytiiogleijmcccaa", sum := "174d0e284c891944072874c72d9a76843a637857ae5c7daca019bae546a8c8db", func := "probate/probatelaw17.LeadComes", spec := "leadComes", unfollowed := true, recurses := true, plainKeys := false, apart := false }
def LeadComesSaid : Prop := leadComesRow.holds Try.pinned (OpenSpec.ofChange leadComesSpec)

/-- ITS FALSE NEIGHBOUR: 'it returns false'. Refute it at one input. -/
def leadComesWrong : ChangeSpec := { name := "leadComes", fn := fun _ => fun
  | [d1, d2] => { results := [.lit (.bool false)], args := [d1, d2] }
  | _ => none }
def LeadComesWrongFalsely : Prop := leadComesRow.holds Try.pinned (OpenSpec.ofChange leadComesWrong)

/-- 'probatelaw17.LeadEnds': WHATEVER THE INPUT: true; the input reads as it did. -/
def leadEndsSpec : ChangeSpec := { name := "leadEnds", fn := fun _ => fun
  | [d1, d2, d3] => { results := [.lit (.bool true)], args := [d1, d2, d3] }
  | _ => none }
def leadEndsRow : OpenClaim := { program := "ytiiogleijmcccaa", sum := "174d0e284c891944072874c72d9a76843a637857ae5c7daca019bae546a8c8db", func := "probate/probatelaw17.LeadEnds", spec := "leadEnds", unfollowed := true, recurses := true, plainKeys := false, apart := false }
def LeadEndsSaid : Prop := leadEndsRow.holds Try.pinned (OpenSpec.ofChange leadEndsSpec)

/-- ITS FALSE NEIGHBOUR: 'it returns false'. Refute it at one input. -/
def leadEndsWrong : ChangeSpec := { name := "leadEnds", fn := fun _ => fun
  | [d1, d2, d3] => { results := [.lit (.bool false)], args := [d1, d2, d3] }
  | _ => none }
def LeadEndsWrongFalsely : Prop := leadEndsRow.holds Try.pinned (OpenSpec.ofChange leadEndsWrong)

/-- 'probatelaw17.LeadBy': WHATEVER THE INPUT: true; the input reads as it did. -/
def leadBySpec : ChangeSpec := { name := "leadBy", fn := fun _ => fun
  | [d1, d2] => { results := [.lit (.bool true)], args := [d1, d2] }
  | _ => none }
def leadByRow : OpenClaim := { program := "ytiiogleijmcccaa", sum := "174d0e284c891944072874c72d9a76843a637857ae5c7daca019bae546a8c8db", func := "probate/probatelaw17.LeadBy", spec := "leadBy", unfollowed := true, recurses := true, plainKeys := false, apart := false }
def LeadBySaid : Prop := leadByRow.holds Try.pinned (OpenSpec.ofChange leadBySpec)

/-- ITS FALSE NEIGHBOUR: 'it returns false'. Refute it at one input. -/
def leadByWrong : ChangeSpec := { name := "leadBy", fn := fun _ => fun
  | [d1, d2] => { results := [.lit (.bool false)], args := [d1, d2] }
  | _ => none }
def LeadByWrongFalsely : Prop := leadByRow.holds Try.pinned (OpenSpec.ofChange leadByWrong)

/- THE SECOND FORM. 'bulk': how many values and letters a reading holds, each counted each time it is reached (what is shared counts as often as it is met; a slice's spare places count too). A statement '..UptoSaid' is the law's where the arguments, and the package variables that the reading takes, are together of bulk at most 1048576: NARROWER than '..Said'. Prove '..Said' where nothing that the law and all that it calls make is longer than what came in: it says more and counts as full. Else prove '..UptoSaid'. A law counts once. -/
mutual
def uptoBulk {H : Type} : DataW H → Nat
  | .lit (.string bytes) => bytes.length + 1
  | .lit _ => 1
  | .nil => 1
  | .ptr d => uptoBulk d + 1
  | .slice elems spare => uptoBulkAll elems + uptoBulkAll spare + 1
  | .agg parts => uptoBulkAll parts + 1
  | .iface _ d => uptoBulk d + 1
  | .map entries => uptoBulkEntries entries + 1
  | .held _ => 1
def uptoBulkAll {H : Type} : List (DataW H) → Nat
  | [] => 0
  | d :: r => uptoBulk d + uptoBulkAll r
def uptoBulkEntries {H : Type} : List (Lit × DataW H) → Nat
  | [] => 0
  | x :: r => uptoBulkEntry x + uptoBulkEntries r
def uptoBulkEntry {H : Type} : Lit × DataW H → Nat
  | (.string bytes, d) => bytes.length + uptoBulk d + 1
  | (_, d) => uptoBulk d + 1
 end
def uptoSmall : (H : Type) → List (DataW H) → Bool := fun _ ds => decide (uptoBulkAll ds ≤ 1048576)
def OpenSpec.upto (s : _root_.Go.ChangeSpec) : _root_.Go.OpenSpec := { _root_.Go.OpenSpec.ofChange s with cond := some uptoSmall }

/-- 'probatelaw09.RankTells', WHERE WHAT IT READS IS OF BULK AT MOST 1048576: true; the input reads as it did. -/
def rankTellsUptoRow : OpenClaim := { program := "ytiiogleijmcccaa", sum := "174d0e284c891944072874c72d9a76843a637857ae5c7daca019bae546a8c8db", func := "probate/probatelaw09.RankTells", spec := "rankTells", unfollowed := true, recurses := true, plainKeys := false, apart := false, narrowed := true }
def RankTellsUptoSaid : Prop := rankTellsUptoRow.holds Try.pinned (OpenSpec.upto rankTellsSpec)

/-- 'probatelaw09.RankShows', WHERE WHAT IT READS IS OF BULK AT MOST 1048576: true; the input reads as it did. -/
def rankShowsUptoRow : OpenClaim := { program := "ytiiogleijmcccaa", sum := "174d0e284c891944072874c72d9a76843a637857ae5c7daca019bae546a8c8db", func := "probate/probatelaw09.RankShows", spec := "rankShows", unfollowed := true, recurses := true, plainKeys := false, apart := false, narrowed := true }
def RankShowsUptoSaid : Prop := rankShowsUptoRow.holds Try.pinned (OpenSpec.upto rankShowsSpec)

/-- 'probatelaw09.RankMeans', WHERE WHAT IT READS IS OF BULK AT MOST 1048576: true; the input reads as it did. -/
def rankMeansUptoRow : OpenClaim := { program := "ytiiogleijmcccaa", sum := "174d0e284c891944072874c72d9a76843a637857ae5c7daca019bae546a8c8db", func := "probate/probatelaw09.RankMeans", spec := "rankMeans", unfollowed := true, recurses := true, plainKeys := false, apart := false, narrowed := true }
def RankMeansUptoSaid : Prop := rankMeansUptoRow.holds Try.pinned (OpenSpec.upto rankMeansSpec)

/-- 'probatelaw10.ReachTells', WHERE WHAT IT READS IS OF BULK AT MOST 1048576: true; the input reads as it did. -/
def reachTellsUptoRow : OpenClaim := { program := "ytiiogleijmcccaa", sum := "174d0e284c891944072874c72d9a76843a637857ae5c7daca019bae546a8c8db", func := "probate/probatelaw10.ReachTells", spec := "reachTells", unfollowed := true, recurses := true, plainKeys := false, apart := false, narrowed := true }
def ReachTellsUptoSaid : Prop := reachTellsUptoRow.holds Try.pinned (OpenSpec.upto reachTellsSpec)

/-- 'probatelaw10.ReachShows', WHERE WHAT IT READS IS OF BULK AT MOST 1048576: true; the input reads as it did. -/
def reachShowsUptoRow : OpenClaim := { program := "ytiiogleijmcccaa", sum := "174d0e284c891944072874c72d9a76843a637857ae5c7daca019bae546a8c8db", func := "probate/probatelaw10.ReachShows", spec := "reachShows", unfollowed := true, recurses := true, plainKeys := false, apart := false, narrowed := true }
def ReachShowsUptoSaid : Prop := reachShowsUptoRow.holds Try.pinned (OpenSpec.upto reachShowsSpec)

/-- 'probatelaw10.ReachOn', WHERE WHAT IT READS IS OF BULK AT MOST 1048576: true; the input reads as it did. -/
def reachOnUptoRow : OpenClaim := { program := "ytiiogleijmcccaa", sum := "174d0e284c891944072874c72d9a76843a637857ae5c7daca019bae546a8c8db", func := "probate/probatelaw10.ReachOn", spec := "reachOn", unfollowed := true, recurses := true, plainKeys := false, apart := false, narrowed := true }
def ReachOnUptoSaid : Prop := reachOnUptoRow.holds Try.pinned (OpenSpec.upto reachOnSpec)

/-- 'probatelaw11.FirstTells', WHERE WHAT IT READS IS OF BULK AT MOST 1048576: true; the input reads as it did. -/
def firstTellsUptoRow : OpenClaim := { program := "ytiiogleijmcccaa", sum := "174d0e284c891944072874c72d9a76843a637857ae5c7daca019bae546a8c8db", func := "probate/probatelaw11.FirstTells", spec := "firstTells", unfollowed := true, recurses := true, plainKeys := false, apart := false, narrowed := true }
def FirstTellsUptoSaid : Prop := firstTellsUptoRow.holds Try.pinned (OpenSpec.upto firstTellsSpec)

/-- 'probatelaw11.FirstMeans', WHERE WHAT IT READS IS OF BULK AT MOST 1048576: true; the input reads as it did. -/
def firstMeansUptoRow : OpenClaim := { program := "ytiiogleijmcccaa", sum := "174d0e284c891944072874c72d9a76843a637857ae5c7daca019bae546a8c8db", func := "probate/probatelaw11.FirstMeans", spec := "firstMeans", unfollowed := true, recurses := true, plainKeys := false, apart := false, narrowed := true }
def FirstMeansUptoSaid : Prop := firstMeansUptoRow.holds Try.pinned (OpenSpec.upto firstMeansSpec)

/-- 'probatelaw11.FirstLeast', WHERE WHAT IT READS IS OF BULK AT MOST 1048576: true; the input reads as it did. -/
def firstLeastUptoRow : OpenClaim := { program := "ytiiogleijmcccaa", sum := "174d0e284c891944072874c72d9a76843a637857ae5c7daca019bae546a8c8db", func := "probate/probatelaw11.FirstLeast", spec := "firstLeast", unfollowed := true, recurses := true, plainKeys := false, apart := false, narrowed := true }
def FirstLeastUptoSaid : Prop := firstLeastUptoRow.holds Try.pinned (OpenSpec.upto firstLeastSpec)

/-- 'probatelaw12.FollowTells', WHERE WHAT IT READS IS OF BULK AT MOST 1048576: true; the input reads as it did. -/
def followTellsUptoRow : OpenClaim := { program := "ytiiogleijmcccaa", sum := "174d0e284c891944072874c72d9a76843a637857ae5c7daca019bae546a8c8db", func := "probate/probatelaw12.FollowTells", spec := "followTells", unfollowed := true, recurses := true, plainKeys := false, apart := false, narrowed := true }
def FollowTellsUptoSaid : Prop := followTellsUptoRow.holds Try.pinned (OpenSpec.upto followTellsSpec)

/-- 'probatelaw12.FollowClosed', WHERE WHAT IT READS IS OF BULK AT MOST 1048576: true; the input reads as it did. -/
def followClosedUptoRow : OpenClaim := { program := "ytiiogleijmcccaa", sum := "174d0e284c891944072874c72d9a76843a637857ae5c7daca019bae546a8c8db", func := "probate/probatelaw12.FollowClosed", spec := "followClosed", unfollowed := true, recurses := true, plainKeys := false, apart := false, narrowed := true }
def FollowClosedUptoSaid : Prop := followClosedUptoRow.holds Try.pinned (OpenSpec.upto followClosedSpec)

/-- 'probatelaw12.FollowMeans', WHERE WHAT IT READS IS OF BULK AT MOST 1048576: true; the input reads as it did. -/
def followMeansUptoRow : OpenClaim := { program := "ytiiogleijmcccaa", sum := "174d0e284c891944072874c72d9a76843a637857ae5c7daca019bae546a8c8db", func := "probate/probatelaw12.FollowMeans", spec := "followMeans", unfollowed := true, recurses := true, plainKeys := false, apart := false, narrowed := true }
def FollowMeansUptoSaid : Prop := followMeansUptoRow.holds Try.pinned (OpenSpec.upto followMeansSpec)

/-- 'probatelaw15.TreeTells', WHERE WHAT IT READS IS OF BULK AT MOST 1048576: true; the input reads as it did. -/
def treeTellsUptoRow : OpenClaim := { program := "ytiiogleijmcccaa", sum := "174d0e284c891944072874c72d9a76843a637857ae5c7daca019bae546a8c8db", func := "probate/probatelaw15.TreeTells", spec := "treeTells", unfollowed := true, recurses := true, plainKeys := false, apart := false, narrowed := true }
def TreeTellsUptoSaid : Prop := treeTellsUptoRow.holds Try.pinned (OpenSpec.upto treeTellsSpec)

/-- 'probatelaw15.TreeComes', WHERE WHAT IT READS IS OF BULK AT MOST 1048576: true; the input reads as it did. -/
def treeComesUptoRow : OpenClaim := { program := "ytiiogleijmcccaa", sum := "174d0e284c891944072874c72d9a76843a637857ae5c7daca019bae546a8c8db", func := "probate/probatelaw15.TreeComes", spec := "treeComes", unfollowed := true, recurses := true, plainKeys := false, apart := false, narrowed := true }
def TreeComesUptoSaid : Prop := treeComesUptoRow.holds Try.pinned (OpenSpec.upto treeComesSpec)

/-- 'probatelaw15.TreeApart', WHERE WHAT IT READS IS OF BULK AT MOST 1048576: true; the input reads as it did. -/
def treeApartUptoRow : OpenClaim := { program := "ytiiogleijmcccaa", sum := "174d0e284c891944072874c72d9a76843a637857ae5c7daca019bae546a8c8db", func := "probate/probatelaw15.TreeApart", spec := "treeApart", unfollowed := true, recurses := true, plainKeys := false, apart := false, narrowed := true }
def TreeApartUptoSaid : Prop := treeApartUptoRow.holds Try.pinned (OpenSpec.upto treeApartSpec)

/-- 'probatelaw14.SoundTells', WHERE WHAT IT READS IS OF BULK AT MOST 1048576: true; the input reads as it did. -/
def soundTellsUptoRow : OpenClaim := { program := "ytiiogleijmcccaa", sum := "174d0e284c891944072874c72d9a76843a637857ae5c7daca019bae546a8c8db", func := "probate/probatelaw14.SoundTells", spec := "soundTells", unfollowed := true, recurses := true, plainKeys := false, apart := false, narrowed := true }
def SoundTellsUptoSaid : Prop := soundTellsUptoRow.holds Try.pinned (OpenSpec.upto soundTellsSpec)

/-- 'probatelaw14.SoundShows', WHERE WHAT IT READS IS OF BULK AT MOST 1048576: true; the input reads as it did. -/
def soundShowsUptoRow : OpenClaim := { program := "ytiiogleijmcccaa", sum := "174d0e284c891944072874c72d9a76843a637857ae5c7daca019bae546a8c8db", func := "probate/probatelaw14.SoundShows", spec := "soundShows", unfollowed := true, recurses := true, plainKeys := false, apart := false, narrowed := true }
def SoundShowsUptoSaid : Prop := soundShowsUptoRow.holds Try.pinned (OpenSpec.upto soundShowsSpec)

/-- 'probatelaw16.SpanTells', WHERE WHAT IT READS IS OF BULK AT MOST 1048576: true; the input reads as it did. -/
def spanTellsUptoRow : OpenClaim := { program := "ytiiogleijmcccaa", sum := "174d0e284c891944072874c72d9a76843a637857ae5c7daca019bae546a8c8db", func := "probate/probatelaw16.SpanTells", spec := "spanTells", unfollowed := true, recurses := true, plainKeys := false, apart := false, narrowed := true }
def SpanTellsUptoSaid : Prop := spanTellsUptoRow.holds Try.pinned (OpenSpec.upto spanTellsSpec)

/-- 'probatelaw16.SpanOne', WHERE WHAT IT READS IS OF BULK AT MOST 1048576: true; the input reads as it did. -/
def spanOneUptoRow : OpenClaim := { program := "ytiiogleijmcccaa", sum := "174d0e284c891944072874c72d9a76843a637857ae5c7daca019bae546a8c8db", func := "probate/probatelaw16.SpanOne", spec := "spanOne", unfollowed := true, recurses := true, plainKeys := false, apart := false, narrowed := true }
def SpanOneUptoSaid : Prop := spanOneUptoRow.holds Try.pinned (OpenSpec.upto spanOneSpec)

/-- 'probatelaw16.SpanOver', WHERE WHAT IT READS IS OF BULK AT MOST 1048576: true; the input reads as it did. -/
def spanOverUptoRow : OpenClaim := { program := "ytiiogleijmcccaa", sum := "174d0e284c891944072874c72d9a76843a637857ae5c7daca019bae546a8c8db", func := "probate/probatelaw16.SpanOver", spec := "spanOver", unfollowed := true, recurses := true, plainKeys := false, apart := false, narrowed := true }
def SpanOverUptoSaid : Prop := spanOverUptoRow.holds Try.pinned (OpenSpec.upto spanOverSpec)

/-- 'probatelaw17.LeadTells', WHERE WHAT IT READS IS OF BULK AT MOST 1048576: true; the input reads as it did. -/
def leadTellsUptoRow : OpenClaim := { program := "ytiiogleijmcccaa", sum := "174d0e284c891944072874c72d9a76843a637857ae5c7daca019bae546a8c8db", func := "probate/probatelaw17.LeadTells", spec := "leadTells", unfollowed := true, recurses := true, plainKeys := false, apart := false, narrowed := true }
def LeadTellsUptoSaid : Prop := leadTellsUptoRow.holds Try.pinned (OpenSpec.upto leadTellsSpec)

/-- 'probatelaw17.LeadComes', WHERE WHAT IT READS IS OF BULK AT MOST 1048576: true; the input reads as it did. -/
def leadComesUptoRow : OpenClaim := { program := "ytiiogleijmcccaa", sum := "174d0e284c891944072874c72d9a76843a637857ae5c7daca019bae546a8c8db", func := "probate/probatelaw17.LeadComes", spec := "leadComes", unfollowed := true, recurses := true, plainKeys := false, apart := false, narrowed := true }
def LeadComesUptoSaid : Prop := leadComesUptoRow.holds Try.pinned (OpenSpec.upto leadComesSpec)

/-- 'probatelaw17.LeadEnds', WHERE WHAT IT READS IS OF BULK AT MOST 1048576: true; the input reads as it did. -/
def leadEndsUptoRow : OpenClaim := { program := "ytiiogleijmcccaa", sum := "174d0e284c891944072874c72d9a76843a637857ae5c7daca019bae546a8c8db", func := "probate/probatelaw17.LeadEnds", spec := "leadEnds", unfollowed := true, recurses := true, plainKeys := false, apart := false, narrowed := true }
def LeadEndsUptoSaid : Prop := leadEndsUptoRow.holds Try.pinned (OpenSpec.upto leadEndsSpec)

/-- 'probatelaw17.LeadBy', WHERE WHAT IT READS IS OF BULK AT MOST 1048576: true; the input reads as it did. -/
def leadByUptoRow : OpenClaim := { program := "ytiiogleijmcccaa", sum := "174d0e284c891944072874c72d9a76843a637857ae5c7daca019bae546a8c8db", func := "probate/probatelaw17.LeadBy", spec := "leadBy", unfollowed := true, recurses := true, plainKeys := false, apart := false, narrowed := true }
def LeadByUptoSaid : Prop := leadByUptoRow.holds Try.pinned (OpenSpec.upto leadBySpec)

end Rows
end Go.Proofs.Ytiiogleijmcccaa
