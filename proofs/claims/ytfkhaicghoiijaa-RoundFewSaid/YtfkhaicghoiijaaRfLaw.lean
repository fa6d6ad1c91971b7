/- RoundFew: the contract of the law's function, over whatever is handed in. -/
import Derived.Test.YtfkhaicghoiijaaRf
namespace Go.Proofs.Ytfkhaicghoiijaa
open Go Go.Sx
theorem roundFew_law (ps : List OP) (h : typedPs Try.prog Try.f8.params.toList ps) : FSpec Try.prog 8 (heapC 0 (chksP ps)) (chksP ps).length (avsP 0 ps) fun x _ _ => x = sBool true := by
  rw [Try.params8] at h
  obtain ⟨p1, ps1, rfl, h1, h⟩ := typed_cons h
  obtain ⟨p2, ps2, rfl, h2, h⟩ := typed_cons h
  obtain rfl := typed_nil h
  obtain ⟨a, rfl, ha0, ha1⟩ := typed_int (k := .u8) h1 (by kernel_rfl) (by kernel_rfl)
  obtain ⟨wd, m, f, l, F, rfl, hD⟩ := typed_deep (e := 47) h2 (by kernel_rfl) (by kernel_rfl) (by kernel_rfl)
  obtain ⟨nb, bz, pk, he, hm, hp⟩ := told_of hD
  obtain rfl : wd = 2 := he.1
  exact (few_spec a m nb bz pk ha0 ha1 hm fun j hj => (hp j hj).2).pre (And.intro (.inr ⟨rfl, he⟩) trivial)
end Go.Proofs.Ytfkhaicghoiijaa
