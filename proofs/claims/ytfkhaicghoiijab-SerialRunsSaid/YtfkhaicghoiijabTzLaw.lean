/- SerialRuns: the contract of the law's function, over whatever is handed in. -/
import Derived.Test.YtfkhaicghoiijabTz
import Derived.Test.YtfkhaicghoiijabSjLaw
set_option linter.unusedVariables false
namespace Go.Proofs.Ytfkhaicghoiijab
open Go Go.Sx
theorem ran_told2 {f : Nat → List Value} {m : Nat} (hf : ∀ i, i < m → PrimsV [.i .i64, .i .i64] (f i)) : ∃ T J : Nat → Int, (∀ i, i < m → f i = ranE T J i) ∧ ranI T J m := by
  obtain ⟨g, hg⟩ := choose_lt (α := Int × Int) (p := fun i x => f i = [.int .i64 x.1, .int .i64 x.2] ∧ ((IntKind.i64.min ≤ x.1 ∧ x.1 ≤ IntKind.i64.max) ∧ (IntKind.i64.min ≤ x.2 ∧ x.2 ≤ IntKind.i64.max) ∧ -9223372036854775808 ≤ x.2 ∧ x.2 ≤ 9223372036854775807)) fun i hi => by
    obtain ⟨v1, l1, e1, ⟨k, rfl, k1, k2⟩, h1⟩ := prims_cons (hf i hi)
    obtain ⟨v2, l2, rfl, ⟨t, rfl, t1, t2⟩, h2⟩ := prims_cons h1
    obtain rfl := prims_nil h2
    exact ⟨(k, t), e1, ⟨k1, k2⟩, ⟨t1, t2⟩, t1, t2⟩
  exact ⟨fun i => (g i).1, fun i => (g i).2, fun i hi => (hg i hi).1, fun i hi => (hg i hi).2⟩
theorem serialRuns_law (ps : List OP) (h : typedPs Try.prog Try.f5.params.toList ps) : FSpec Try.prog 5 (heapC 0 (chksP ps)) (chksP ps).length (avsP 0 ps) fun x _ _ => x = sBool true := by
  rw [Try.params5] at h
  obtain ⟨p1, ps1, rfl, h1, h⟩ := typed_cons h
  obtain ⟨p2, ps2, rfl, h2, h⟩ := typed_cons h
  obtain ⟨p3, ps3, rfl, h3, h⟩ := typed_cons h
  obtain rfl := typed_nil h
  obtain ⟨xs, rfl, hx⟩ := typed_cols h1 (cols := List.replicate 16 (.i .u32)) (b := true) (by kernel_rfl) (by kernel_rfl)
  obtain ⟨c, rfl⟩ := cells_told hx
  obtain ⟨wd, n, f, l, F, rfl, hD⟩ := typed_deep (e := 37) h2 (by kernel_rfl) (by kernel_rfl) (by kernel_rfl)
  obtain ⟨m, g, l2, F2, rfl, hm, hg⟩ := typed_slice (e := 54) (cols := [.i .i64, .i .i64]) h3 (by kernel_rfl) (by kernel_rfl) (by kernel_rfl)
  obtain ⟨b, hb, he⟩ := jobs_told hD
  obtain ⟨T, J, hT, hR⟩ := ran_told2 hg
  obtain rfl : wd = 1 := he.1
  obtain rfl : n = b.n := he.2.1
  exact (sruns_spec b hb T J m c hm.1 hR).pre (And.intro (.inr ⟨rfl, he⟩) (And.intro (And.intro rfl (And.intro (Nat.le_refl _) fun i hi => hT i hi)) trivial))
end Go.Proofs.Ytfkhaicghoiijab
