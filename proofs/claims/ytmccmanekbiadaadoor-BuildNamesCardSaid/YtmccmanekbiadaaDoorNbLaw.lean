/- BuildNames: the contract of the law's function, over whatever is handed in. -/
import Derived.Test.YtmccmanekbiadaaDoorNb
import Derived.Test.YtmccmanekbiadaaDoorSxV
set_option linter.unusedVariables false
namespace Go.Proofs.YtmccmanekbiadaaDoor
open Go Go.Sx
theorem buildNames_law (ps : List OP) (h : typedPs Tryd.prog Tryd.f3.params.toList ps) : FSpec Tryd.prog 3 (heapC 0 (chksP ps)) (chksP ps).length (avsP 0 ps) fun x _ _ => x = sBool true := by
  rw [Tryd.params3] at h
  obtain ⟨p1, ps1, rfl, h1, h⟩ := typed_cons h
  obtain ⟨p2, ps2, rfl, h2, h⟩ := typed_cons h
  obtain rfl := typed_nil h
  obtain ⟨k, rfl, hk⟩ := typed_int (k := .i64) h1 (by kernel_rfl) (by kernel_rfl)
  obtain ⟨s, rfl, hs⟩ := typed_string h2 (by kernel_rfl) (by kernel_rfl)
  exact buildNames_spec k s
end Go.Proofs.YtmccmanekbiadaaDoor
