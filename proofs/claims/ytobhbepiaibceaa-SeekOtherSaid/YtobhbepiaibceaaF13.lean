/- The law EntryLists: what its function does. -/
import Derived.Test.YtobhbepiaibceaaF12
set_option linter.unusedVariables false
set_option linter.unusedSimpArgs false
namespace Go.Ab
end Go.Ab
