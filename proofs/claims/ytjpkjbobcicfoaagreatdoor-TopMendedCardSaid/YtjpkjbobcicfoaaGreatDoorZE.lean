/-
  Layer 17: no derivation stands ahead of the least one, or behind the greatest. Conditions: none.
-/
import Derived.Test.YtjpkjbobcicfoaaGreatDoorZ9
import Derived.Test.YtjpkjbobcicfoaaGreatDoorT8
import Derived.Test.YtjpkjbobcicfoaaGreatDoorT9
import Derived.Test.YtjpkjbobcicfoaaGreatDoorG1
set_option linter.unusedSimpArgs false
set_option linter.unusedVariables false
namespace Go.Av
open Go.Proofs
set_option maxRecDepth 100000
theorem lead_by {g:Gr} {w:List Int} {l:List (Nat→Nat)} (h:RowsC g w l) {kind:Int} (h0:0≤kind) (h2:kind≤2):leadL g w kind l=byL g w kind l:=by
 have hle:¬l=[]:=fun e=>by have:=h.1;rw[e] at this;simp at this
 rw[leadL,if_neg (fun q=>q.elim hle fun q=>q.elim (by omega) (by omega))]
theorem replay_rep {g:Gr} (hr:right g=true) {l:List Int} (hl:l.length≤2000):replayL g l=repF g l [⟨true,g.start⟩] []:=by
 rw[replayL,if_pos hr,if_neg (by omega)]
theorem ends_law {g:Gr} (hG:GoodG g) {w:List Int} (hw:w.length≤24) {l:List (Nat→Nat)} (hrc:RowsC g w l):
  ((byL g w 0 l).1=11∧(byL g w 1 l).1=11)∨(((byL g w 0 l).1=5∨((byL g w 0 l).1=0∧repF g (byL g w 0 l).2 [⟨true,g.start⟩] []=(0,w)))∧((byL g w 1 l).1=5∨((byL g w 1 l).1=0∧repF g (byL g w 1 l).2 [⟨true,g.start⟩] []=(0,w)))):=by
 have e0:((0:Int)=2)=False:=by simp
 have e1:((1:Int)=2)=False:=by simp
 by_cases h:Ok g w False [⟨true,g.start⟩] 0
 ·right
  refine⟨?_, ?_⟩
  ·rcases by_spec (kind:=0) hG hrc hw (by rw[e0];exact h) with q|⟨q,t,q1,q2⟩
   ·exact .inl q
   ·rw[q2 (by decide),List.append_nil] at q1;exact .inr ⟨q,q1⟩
  ·rcases by_spec (kind:=1) hG hrc hw (by rw[e1];exact h) with q|⟨q,t,q1,q2⟩
   ·exact .inl q
   ·rw[q2 (by decide),List.append_nil] at q1;exact .inr ⟨q,q1⟩
 ·left
  rw[by_no (kind:=0) (fun q=>h (by have:=(start_ok hG hrc hw).1 q;rwa[e0] at this)),by_no (kind:=1) (fun q=>h (by have:=(start_ok hG hrc hw).1 q;rwa[e1] at this))];exact⟨rfl,rfl⟩
end Go.Av
