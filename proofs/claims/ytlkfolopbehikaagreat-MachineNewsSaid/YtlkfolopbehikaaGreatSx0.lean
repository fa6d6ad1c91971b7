/- What the laid package-level variables hold. -/
import Derived.Calls
namespace Go.Sx
open Go
def laidL : List (Nat × List Value) := []
end Go.Sx
