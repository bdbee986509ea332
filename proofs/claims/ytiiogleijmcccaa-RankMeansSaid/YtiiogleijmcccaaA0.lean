/-
  Plain lemmas on lists. Conditions: none.
-/
namespace Go.Av

theorem take_drop_drop {α : Type} (X : List α) {k s : Nat} (h : k ≤ s) (hs : s ≤ X.length) : (X.take s).drop k ++ X.drop s = X.drop k := by
  have h1 : X.drop k = (X.take s ++ X.drop s).drop k := by rw [List.take_append_drop]
  rw [h1, List.drop_append_of_le_length (by simp; omega)]

theorem take_take_drop {α : Type} (X : List α) (i f : Nat) : X.take i ++ (X.drop i).take f = X.take (i + f) := by
  rw [List.take_add]

theorem seg_key {α : Type} (L us : List α) (o n i s f : Nat) (h1 : i + s ≤ n) (h2 : f + us.length ≤ s) (h3 : o + n ≤ L.length) :
    ((L.take (o + i + f) ++ us ++ L.drop (o + i + f + us.length)).drop o).take n =
      ((L.drop o).take n).take i ++ (((((L.drop o).take n).drop i).take s).take f ++ us ++ ((((L.drop o).take n).drop i).take s).drop (f + us.length)) ++ ((L.drop o).take n).drop (i + s) := by
  have hM : ((L.drop o).take n).length = n := by simp; omega
  have e1 : L.take (o + i + f) = L.take o ++ ((L.drop o).take n).take (i + f) := by
    rw [List.take_take, Nat.min_eq_left (by omega), ← List.take_add]; congr 1; omega
  have e2 : L.drop (o + i + f + us.length) = ((L.drop o).take n).drop (i + f + us.length) ++ L.drop (o + n) := by
    have := take_drop_drop (L.drop o) (k := i + f + us.length) (s := n) (by omega) (by simp; omega)
    rw [List.drop_drop, List.drop_drop] at this
    rw [this]; congr 1; omega
  rw [e1, e2]
  generalize (L.drop o).take n = M at *
  have hA : (L.take o).length = o := by simp; omega
  generalize L.take o = A at *
  generalize L.drop (o + n) = C at *
  have e3 : A ++ M.take (i + f) ++ us ++ (M.drop (i + f + us.length) ++ C) = A ++ ((M.take (i + f) ++ us ++ M.drop (i + f + us.length)) ++ C) := by simp [List.append_assoc]
  rw [e3, List.drop_append_of_le_length (by omega), List.drop_of_length_le (by omega), List.nil_append, List.take_append_of_le_length (by simp; omega), List.take_of_length_le (by simp; omega)]
  have e4 : ((M.drop i).take s).take f = (M.drop i).take f := by rw [List.take_take, Nat.min_eq_left (by omega)]
  have e5 : ((M.drop i).take s).drop (f + us.length) ++ M.drop (i + s) = M.drop (i + f + us.length) := by
    have := take_drop_drop (M.drop i) (k := f + us.length) (s := s) h2 (by simp; omega)
    rw [List.drop_drop, List.drop_drop] at this
    rw [this]; congr 1; omega
  rw [e4, List.append_assoc (M.take i), List.append_assoc ((M.drop i).take f ++ us), e5, List.append_assoc ((M.drop i).take f), ← List.append_assoc (M.take i), take_take_drop, List.append_assoc]

end Go.Av
