/- What the laid package-level variables hold. -/
import Derived.Calls
namespace Go.Sx
open Go
def laidL : List (Nat × List Value) := [(0, [.string ⟨#[116, 105, 99, 107, 101, 116]⟩, .string ⟨#[115, 108, 111, 116, 115]⟩, .string ⟨#[99, 108, 104]⟩, .string ⟨#[109, 99, 115]⟩, .string ⟨#[97, 98, 111, 114, 116]⟩, .string ⟨#[104, 105, 101, 114]⟩, .string ⟨#[99, 111, 104, 111, 114, 116]⟩])]
end Go.Sx
