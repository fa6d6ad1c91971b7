/- WitnessPairs: the contract of the law's function, over whatever is handed in. -/
import Derived.Test.YtmccmanekbiadaaWh
import Derived.Test.YtmccmanekbiadaaWdLaw
set_option linter.unusedVariables false
namespace Go.Proofs.Ytmccmanekbiadaa
open Go Go.Sx
theorem witnessPairs_law (ps : List OP) (h : typedPs Try.prog Try.f4.params.toList ps) : FSpec Try.prog 4 (heapC 0 (chksP ps)) (chksP ps).length (avsP 0 ps) fun x _ _ => x = sBool true := by
  rw [Try.params4] at h
  obtain ⟨p1, ps1, rfl, h1, h⟩ := typed_cons h
  obtain ⟨p2, ps2, rfl, h2, h⟩ := typed_cons h
  obtain rfl := typed_nil h
  obtain ⟨m, f, l, F, rfl, hm, hf⟩ := typed_slice (e := 71) (cols := [.i .i64, .i .i64, .i .i64, .b]) h1 (by kernel_rfl) (by kernel_rfl) (by kernel_rfl)
  obtain ⟨N, g, l2, F2, rfl, hN, hg⟩ := typed_slice (e := 3) (cols := [.i .i64]) h2 (by kernel_rfl) (by kernel_rfl) (by kernel_rfl)
  obtain ⟨k, t, a, b, he⟩ := ent_told hf
  obtain ⟨H, hH⟩ := num_told hg
  exact (pairs_spec k t a b m hm.1 H N hN.1).pre (And.intro (And.intro rfl (And.intro (Nat.le_refl _) fun i hi => (he i hi).symm)) (And.intro (And.intro rfl (And.intro (Nat.le_refl _) fun i hi => (hH i hi).symm)) trivial))
end Go.Proofs.Ytmccmanekbiadaa
