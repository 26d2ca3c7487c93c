/- The texts that this claim needs, part 6: a logic over abstract values, its steps, what the functions do. No condition of its own. -/
import Derived.Lib.Bytealg
import Derived.Test.YtghihffhjpchpaaGreatMoveKeepsK5
/- A key's place in a rising list, halved out; a block is read as it was written. No program in sight. -/
set_option linter.unusedVariables false
set_option linter.unusedSimpArgs false
namespace Go.Ab
theorem compare_cmpK : ∀ a b : List UInt8, Lib.compareBytes a b = cmpK a b
  | [], [] => by simp [Lib.compareBytes, cmpK, lt, Op.bytesLess]
  | [], y :: b => by simp [Lib.compareBytes, cmpK, lt, Op.bytesLess]
  | x :: a, [] => by simp [Lib.compareBytes, cmpK, lt, Op.bytesLess]
  | x :: a, y :: b => by
    have ih := compare_cmpK a b
    unfold Lib.compareBytes cmpK
    unfold cmpK at ih
    by_cases h1 : x < y
    · have h2 : lt (x :: a) (y :: b) = true := by simp [lt, Op.bytesLess, h1]
      simp [h1, h2]
    · by_cases h3 : x = y
      · subst h3
        have h4 : lt (x :: a) (x :: b) = lt a b := by simp [lt, Op.bytesLess]
        have h5 : ¬ x < x := UInt8.lt_irrefl x
        rw [h4]
        simp only [h5, if_false, List.cons.injEq, true_and]
        exact ih
      · have h6 : y < x := UInt8.lt_of_le_of_ne (UInt8.not_lt.1 h1) (Ne.symm h3)
        have h2 : lt (x :: a) (y :: b) = false := by simp [lt, Op.bytesLess, h1, h3]
        simp [h1, h6, h2, h3]
end Go.Ab
