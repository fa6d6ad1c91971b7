/- part -/
import Derived.Test.YtlkfolopbehikaaGreatSxX
import Derived.Laws.BytesString
set_option linter.unusedSimpArgs false
namespace Go.Sx
open Go
end Go.Sx
