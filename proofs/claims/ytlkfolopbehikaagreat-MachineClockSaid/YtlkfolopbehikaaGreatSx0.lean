/- What the laid package-level variables hold. -/
import Derived.Calls
namespace Go.Sx
open Go
def ZMM : List (Nat × List Value) := []
end Go.Sx
