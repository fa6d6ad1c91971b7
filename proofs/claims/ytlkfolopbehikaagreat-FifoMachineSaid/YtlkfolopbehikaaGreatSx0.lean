/- part -/
import Derived.Calls
namespace Go.Sx
open Go
def ZNC : List (Nat × List Value) := []
end Go.Sx
