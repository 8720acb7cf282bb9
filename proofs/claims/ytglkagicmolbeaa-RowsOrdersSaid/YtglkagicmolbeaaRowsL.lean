/- The order of rows' numbers: plain laws for the law RowsOrders. -/
import Derived.Test.YtglkagicmolbeaaRowsK
namespace Go.Proofs.Ytglkagicmolbeaa.Rw
set_option linter.unusedVariables false
set_option linter.unusedSimpArgs false
open Go.Proofs.Ytglkagicmolbeaa.Kit Go.Proofs.Ytglkagicmolbeaa.Num Go.RowKit Go.Proofs.YtglkagicmolbeaaW.PrintWords Go.Proofs.YtglkagicmolbeaaW.PrintLast Go.Proofs.YtglkagicmolbeaaW.PrintMore NumPure
theorem ltN_cons (a b : Int) (x y : List Int) : ltN (a :: x) (b :: y) = if a < b then true else if a = b then ltN x y else false := rfl
/-- Four bytes are ordered as their numbers. -/
theorem ltN_be4 (a b : Nat) (ha : a < 4294967296) (hb : b < 4294967296) (x y : List Int) : ltN (be a 4 ++ x) (be b 4 ++ y) = (decide (a < b) || (decide (a = b) && ltN x y)) := by
  simp only [be_succ, be_zero, List.cons_append, List.nil_append, ltN_cons]
  rcases Nat.lt_trichotomy a b with h | h | h
  · rw [decide_eq_true h, Bool.true_or]
    repeat' split
    all_goals first | rfl | (exfalso; omega)
  · subst h
    simp
  · rw [decide_eq_false (show ¬ a < b by omega), decide_eq_false (show ¬ a = b by omega), Bool.false_and, Bool.or_false]
    repeat' split
    all_goals first | rfl | (exfalso; omega)
/-- The order of texts that begin alike and end in a number each. -/
theorem less_F4 (p r t : ByteArray) (a b : Int) : Op.bytesLess (p ++ F4 a ++ r).toList (p ++ F4 b ++ t).toList = (decide (U a < U b) || (decide (U a = U b) && Op.bytesLess r.toList t.toList)) := by
  rw [less_nums, numsOf_append, numsOf_append, numsOf_append, numsOf_append, List.append_assoc, List.append_assoc, ltN_pre]
  unfold F4
  rw [numsOf_strOfNums _ (be_byte _ _), numsOf_strOfNums _ (be_byte _ _), ltN_be4 _ _ (U_lt a) (U_lt b), less_nums]
theorem less_nil (r : ByteArray) (h : r.size = 0) : Op.bytesLess r.toList r.toList = false := by rw [less_nums, ltN_self]
/-- .. where nothing stands behind the numbers. -/
theorem less_F4_end (p : ByteArray) (a b : Int) : Op.bytesLess (p ++ F4 a).toList (p ++ F4 b).toList = decide (U a < U b) := by
  have e : ∀ q : ByteArray, q ++ (⟨#[]⟩ : ByteArray) = q := fun q => numsOf_inj (by rw [numsOf_append, numsOf_empty, List.append_nil])
  have h := less_F4 p ⟨#[]⟩ ⟨#[]⟩ a b
  rw [e, e, less_nil _ rfl, Bool.and_false, Bool.or_false] at h
  exact h
end Go.Proofs.Ytglkagicmolbeaa.Rw
