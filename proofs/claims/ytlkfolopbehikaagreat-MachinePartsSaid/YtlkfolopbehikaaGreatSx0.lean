/- part -/
import Derived.Calls
namespace Go.Sx
open Go
def ZMS : List (Nat × List Value) := []
end Go.Sx
