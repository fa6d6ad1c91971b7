/- RoundPlays: the contract of the law's function, over whatever is handed in. -/
import Derived.Test.YtfkhaicghoiijaaRq
namespace Go.Proofs.Ytfkhaicghoiijaa
open Go Go.Sx
theorem roundPlays_law (ps : List OP) (h : typedPs Try.prog Try.f6.params.toList ps) : FSpec Try.prog 6 (heapC 0 (chksP ps)) (chksP ps).length (avsP 0 ps) fun x _ _ => x = sBool true := by
  rw [Try.params6] at h
  obtain ⟨p1, ps1, rfl, h1, h⟩ := typed_cons h
  obtain ⟨p2, ps2, rfl, h2, h⟩ := typed_cons h
  obtain rfl := typed_nil h
  obtain ⟨a, rfl, ha0, ha1⟩ := typed_int (k := .i64) h1 (by kernel_rfl) (by kernel_rfl)
  obtain ⟨wd, m, f, l, F, rfl, hD⟩ := typed_deep (e := 47) h2 (by kernel_rfl) (by kernel_rfl) (by kernel_rfl)
  obtain ⟨nb, bz, pk, he, hm, hp⟩ := told_of hD
  obtain rfl : wd = 2 := he.1
  exact (plays_spec a m nb bz pk hm fun j hj => (hp j hj).1).pre (And.intro (.inr ⟨rfl, he⟩) trivial)
end Go.Proofs.Ytfkhaicghoiijaa
