/- The reference's fold. -/
import Derived.Test.YtobhbepiaibceaaF7
import Derived.Test.YtobhbepiaibceaaB4
set_option linter.unusedVariables false
set_option linter.unusedSimpArgs false
namespace Go.Ab
theorem foldE_take_succ {l : List En} {i : Nat} (h : i < l.length) : foldE (l.take (i + 1)) = putE (l.getD i default) (foldE (l.take i)) := by rw [take_succ_d h, foldE_snoc]
end Go.Ab
