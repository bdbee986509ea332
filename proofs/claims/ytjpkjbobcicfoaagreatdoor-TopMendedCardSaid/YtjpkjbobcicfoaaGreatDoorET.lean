/-
  TopLeast: the tree that is told is the least one. Conditions: none.
-/
import Derived.Test.YtjpkjbobcicfoaaGreatDoorER
import Derived.Test.YtjpkjbobcicfoaaGreatDoorZE
import Derived.Test.YtjpkjbobcicfoaaGreatDoorBF
set_option linter.unusedSimpArgs false
set_option linter.unusedVariables false
namespace Go.Av
open Go.Proofs
set_option maxRecDepth 100000
theorem der_tok {g:Gr} {w:List Int} {P:Int→Prop} (hg:∀p∈g.prods,∀s∈p.right,s.non=false→P s.n) {l:List Sy} {a c:Nat} (h:Der g w l a c):(∀s∈l,s.non=false→P s.n)→∀k t,a≤k→k<c→w[k]?=some t→P t:=by
 induction h with
 |nil _=>intro _ k t h1 h2;omega
 | @term u l a c hw hl ih=>
   intro hs k t h1 h2 h3;by_cases e:k=a
   ·subst e;rw[hw] at h3;injection h3 with h3
    subst h3;exact hs ⟨false,u⟩ (by simp) rfl
   ·exact ih (fun s hs'=>hs s (List.mem_cons_of_mem _ hs')) k t (by omega) h2 h3
 | @non q l a b c hq hr hl ih1 ih2=>
   intro hs k t h1 h2 h3;by_cases e:k<b
   ·exact ih1 (fun s hs'=>hg q hq s hs') k t h1 e h3
   ·exact ih2 (fun s hs'=>hs s (List.mem_cons_of_mem _ hs')) k t (by omega) h2 h3
theorem rf_bool {fr:Bool} {d:Nat} {h:Heap} {r:AV} {b:Bool} (e:rf fr d h r=some (.bool b)):r=.bool b:=by
 cases d with
 |zero=>simp[rf] at e
 |succ d=>
  cases r<;>rw[rf] at e<;>first|(injection e with e;exact e)|(injection e with e;cases e;done)|cases e|skip
  all_goals first|rfl|((repeat' split at e)<;>first|(injection e with e;cases e;done)|(cases e;done))
theorem awake_fh:PF pg Tq 6 [] (.bool true):=by
 obtain⟨r,h1,x1,d,hs,hr⟩:=awake_pf;have e:=rf_bool hr;subst e;exact⟨_,h1,x1,.semF hs,4,fun fr=>by simp[rf]⟩
end Go.Av
