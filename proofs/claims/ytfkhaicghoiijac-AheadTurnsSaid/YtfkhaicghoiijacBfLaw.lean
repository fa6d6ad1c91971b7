/- AheadTurns: the contract of the law's function, over whatever is handed in. -/
import Derived.Test.YtfkhaicghoiijacBf
import Derived.Test.YtfkhaicghoiijacSxV
namespace Go.Proofs.Ytfkhaicghoiijac
open Go Go.Sx
theorem ent_told {f : Nat → List Value} {m : Nat} (hf : ∀ i, i < m → PrimsV [.i .i64, .i .i64, .i .i64, .b] (f i)) :
    ∃ (k t a : Nat → Int) (b : Nat → Bool), ∀ i, i < m → entE k t a b i = f i ∧ inI (k i) ∧ inI (t i) := by
  obtain ⟨g, hg⟩ := choose_lt (α := Int × Int × Int × Bool) (p := fun i x => ([.int .i64 x.1, .int .i64 x.2.1, .int .i64 x.2.2.1, .bool x.2.2.2] : List Value) = f i ∧ inI x.1 ∧ inI x.2.1) (n := m) fun i hi => by
    obtain ⟨v1, l1, e1, ⟨k, rfl, hk⟩, h1⟩ := prims_cons (hf i hi)
    obtain ⟨v2, l2, rfl, ⟨t, rfl, ht⟩, h2⟩ := prims_cons h1
    obtain ⟨v3, l3, rfl, ⟨a, rfl, ha⟩, h3⟩ := prims_cons h2
    obtain ⟨v4, l4, rfl, ⟨b, rfl⟩, h4⟩ := prims_cons h3
    obtain rfl := prims_nil h4
    exact ⟨(k, t, a, b), e1.symm, hk, ht⟩
  exact ⟨fun i => (g i).1, fun i => (g i).2.1, fun i => (g i).2.2.1, fun i => (g i).2.2.2, hg⟩
theorem aheadTurns_law (ps : List OP) (h : typedPs Try.prog Try.f5.params.toList ps) : FSpec Try.prog 5 (heapC 0 (chksP ps)) (chksP ps).length (avsP 0 ps) fun x _ _ => x = sBool true := by
  rw [Try.params5] at h
  obtain ⟨p1, ps1, rfl, h1, h⟩ := typed_cons h
  obtain rfl := typed_nil h
  obtain ⟨m, f, l, F, rfl, hm, hf⟩ := typed_slice (e := 32) (cols := [.i .i64, .i .i64, .i .i64, .b]) h1 (by kernel_rfl) (by kernel_rfl) (by kernel_rfl)
  obtain ⟨k, t, a, b, he⟩ := ent_told hf
  exact (aturns_spec k t a b m hm.1 fun i hi => (he i hi).2.2).pre (And.intro (And.intro rfl (And.intro (Nat.le_refl _) fun i hi => ((he i hi).1).symm)) trivial)
end Go.Proofs.Ytfkhaicghoiijac
