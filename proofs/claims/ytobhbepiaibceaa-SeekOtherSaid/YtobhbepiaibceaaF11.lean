/- The law EntryFolds: what its function does. -/
import Derived.Test.YtobhbepiaibceaaF10
import Derived.Test.YtobhbepiaibceaaSp5
set_option linter.unusedVariables false
set_option linter.unusedSimpArgs false
namespace Go.Ab
end Go.Ab
