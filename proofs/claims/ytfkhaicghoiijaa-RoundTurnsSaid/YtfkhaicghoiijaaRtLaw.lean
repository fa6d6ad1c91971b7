/- RoundTurns: the contract of the law's function, over whatever is handed in. -/
import Derived.Test.YtfkhaicghoiijaaRt
import Derived.Test.YtfkhaicghoiijaaSxV
namespace Go.Proofs.Ytfkhaicghoiijaa
open Go Go.Sx
theorem roundTurns_law (ps : List OP) (h : typedPs Try.prog Try.f7.params.toList ps) : FSpec Try.prog 7 (heapC 0 (chksP ps)) (chksP ps).length (avsP 0 ps) fun x _ _ => x = sBool true := by
  rw [Try.params7] at h
  obtain ⟨p1, ps1, rfl, h1, h⟩ := typed_cons h
  obtain ⟨p2, ps2, rfl, h2, h⟩ := typed_cons h
  obtain ⟨p3, ps3, rfl, h3, h⟩ := typed_cons h
  obtain rfl := typed_nil h
  obtain ⟨a, rfl, ha0, ha1⟩ := typed_int (k := .u8) h1 (by kernel_rfl) (by kernel_rfl)
  obtain ⟨b, rfl, hb0, hb1⟩ := typed_int (k := .u8) h2 (by kernel_rfl) (by kernel_rfl)
  obtain ⟨c, rfl, hc0, hc1⟩ := typed_int (k := .u8) h3 (by kernel_rfl) (by kernel_rfl)
  exact (turns_spec a b c ha0 ha1 hb0 hb1 hc0 hc1).mono fun x h n hx => hx.1
end Go.Proofs.Ytfkhaicghoiijaa
