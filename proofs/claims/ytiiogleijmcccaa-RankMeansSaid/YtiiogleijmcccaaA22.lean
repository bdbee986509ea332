/-
  What the walks' rewriting uses. Conditions: none.
-/
import Derived.Test.YtiiogleijmcccaaA21
namespace Go.Av

theorem upd_app {h : Heap} {b x : Nat} {o : Option AO} : upd h b o x = if x = b then o else h x := rfl

theorem arr_isEmpty {α : Type} : (#[] : Array α).isEmpty = true := rfl

theorem cast_lit {n : Nat} : ((no_index (OfNat.ofNat n) : Nat) : Int) = OfNat.ofNat n := rfl

theorem nlt1 {n k : Nat} : (n + k < n) = False := by simp
theorem nlt2 {n k : Nat} : (n < n + k) = (0 < k) := by simp

theorem int_beq {a b : Int} : (a == b) = decide (a = b) := by
  by_cases h : a = b <;> simp [h]

theorem int_bne {a b : Int} : (a != b) = !decide (a = b) := by
  by_cases h : a = b <;> simp [h]

theorem upds_nil {h : Heap} : upds h [] = h := rfl

attribute [go_sem] int_beq int_bne nlt1 nlt2 Nat.add_lt_add_iff_left eq_self Int.reduceEq cast_lit and_true upds_nil arr_isEmpty VG_true VG_false VK_some VF_some VL_nil VL_cons VO gdL aop ev evs evp cv cv1 cvs P1 Option.map inN upds put_app put_none fr0_zero fr0_succ fr0_nil reduceIte Nat.reduceEqDiff Nat.reduceLT decide_true decide_false true_and Nat.reduceAdd Nat.zero_add Nat.add_zero
  aBuiltin aLen lenT aBin aUn aConv aLoad aStore aAlloc aBox aBuild aBuildSlice aMake aField aFieldV aIndexAddr aIndex aSlice aAppend rdCells ofCells rdCls below cellsOf aEq eqs eq1 over fill fillS elems bd minInt Option.bind
  List.append_nil List.nil_append List.length_map List.getElem?_map and_self if_true Bool.false_eq_true if_false List.getElem?_toArray List.getElem?_cons_zero List.getElem?_cons_succ Int.natCast_nonneg Int.toNat_natCast
  List.length_cons List.length_nil List.drop_zero List.take_succ_cons List.take_zero Nat.le_refl List.drop_succ_cons Bool.not_true Bool.not_false andThen inBlock atEnd ares aresL ares1 Bool.and_true Bool.true_and upd_app List.all_cons List.all_nil scal Bool.and_self beq_true beq_false List.isEmpty_nil List.isEmpty_cons List.set_cons_zero List.set_cons_succ List.cons_append List.take_nil List.drop_nil List.append_assoc List.replicate_zero List.replicate_succ ge_iff_le gt_iff_lt Bool.true_eq_false Bool.and_false Bool.false_and Nat.lt_irrefl Nat.add_eq_left Nat.left_eq_add Nat.add_left_cancel_iff Nat.add_right_cancel_iff Nat.succ_ne_zero Nat.reduceSub Nat.reduceMul Nat.reduceLeDiff Nat.add_assoc Int.reduceLE Int.reduceLT Int.reduceToNat Int.reduceNeg

end Go.Av
