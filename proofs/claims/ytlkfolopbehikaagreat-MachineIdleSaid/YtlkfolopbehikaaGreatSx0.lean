/- part -/
import Derived.Calls
namespace Go.Sx
open Go
def ZMQ : List (Nat × List Value) := []
end Go.Sx
