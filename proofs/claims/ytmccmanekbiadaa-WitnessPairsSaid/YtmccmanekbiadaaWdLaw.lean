/- WitnessFew: the contract of the law's function, over whatever is handed in. -/
import Derived.Test.YtmccmanekbiadaaWd
import Derived.Test.YtmccmanekbiadaaSxV
set_option linter.unusedVariables false
namespace Go.Proofs.Ytmccmanekbiadaa
open Go Go.Sx
theorem ent_told {f : Nat → List Value} {m : Nat} (hf : ∀ i, i < m → PrimsV [.i .i64, .i .i64, .i .i64, .b] (f i)) :
    ∃ (k t a : Nat → Int) (b : Nat → Bool), ∀ i, i < m → entE k t a b i = f i := by
  obtain ⟨g, hg⟩ := choose_lt (α := Int × Int × Int × Bool) (p := fun i x => ([.int .i64 x.1, .int .i64 x.2.1, .int .i64 x.2.2.1, .bool x.2.2.2] : List Value) = f i) (n := m) fun i hi => by
    obtain ⟨v1, l1, e1, ⟨k, rfl, hk⟩, h1⟩ := prims_cons (hf i hi)
    obtain ⟨v2, l2, rfl, ⟨t, rfl, ht⟩, h2⟩ := prims_cons h1
    obtain ⟨v3, l3, rfl, ⟨a, rfl, ha⟩, h3⟩ := prims_cons h2
    obtain ⟨v4, l4, rfl, ⟨b, rfl⟩, h4⟩ := prims_cons h3
    obtain rfl := prims_nil h4
    exact ⟨(k, t, a, b), e1.symm⟩
  exact ⟨fun i => (g i).1, fun i => (g i).2.1, fun i => (g i).2.2.1, fun i => (g i).2.2.2, hg⟩
theorem num_told {f : Nat → List Value} {m : Nat} (hf : ∀ i, i < m → PrimsV [.i .i64] (f i)) : ∃ h : Nat → Int, ∀ i, i < m → numE h i = f i := by
  obtain ⟨g, hg⟩ := choose_lt (α := Int) (p := fun i x => ([.int .i64 x] : List Value) = f i) (n := m) fun i hi => by
    obtain ⟨v1, l1, e1, ⟨k, rfl, hk⟩, h1⟩ := prims_cons (hf i hi)
    obtain rfl := prims_nil h1
    exact ⟨k, e1.symm⟩
  exact ⟨g, hg⟩
theorem witnessFew_law (ps : List OP) (h : typedPs Try.prog Try.f6.params.toList ps) : FSpec Try.prog 6 (heapC 0 (chksP ps)) (chksP ps).length (avsP 0 ps) fun x _ _ => x = sBool true := by
  rw [Try.params6] at h
  obtain ⟨p1, ps1, rfl, h1, h⟩ := typed_cons h
  obtain ⟨p2, ps2, rfl, h2, h⟩ := typed_cons h
  obtain ⟨p3, ps3, rfl, h3, h⟩ := typed_cons h
  obtain rfl := typed_nil h
  obtain ⟨m, f, l, F, rfl, hm, hf⟩ := typed_slice (e := 71) (cols := [.i .i64, .i .i64, .i .i64, .b]) h1 (by kernel_rfl) (by kernel_rfl) (by kernel_rfl)
  obtain ⟨N, g, l2, F2, rfl, hN, hg⟩ := typed_slice (e := 3) (cols := [.i .i64]) h2 (by kernel_rfl) (by kernel_rfl) (by kernel_rfl)
  obtain ⟨u, rfl, hu⟩ := typed_int (k := .u8) h3 (by kernel_rfl) (by kernel_rfl)
  obtain ⟨k, t, a, b, he⟩ := ent_told hf
  obtain ⟨H, hH⟩ := num_told hg
  exact (few_spec k t a b m hm.1 H N hN.1 u hu).pre (And.intro (And.intro rfl (And.intro (Nat.le_refl _) fun i hi => (he i hi).symm)) (And.intro (And.intro rfl (And.intro (Nat.le_refl _) fun i hi => (hH i hi).symm)) trivial))
end Go.Proofs.Ytmccmanekbiadaa
