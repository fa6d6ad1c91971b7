/- EventEncodes: the contract of the law's function, over whatever is handed in. -/
import Derived.Test.YtfkhaicghoiijaaEf
namespace Go.Proofs.Ytfkhaicghoiijaa
open Go Go.Sx
instance : Inhabited Ev := ⟨⟨0, 0, 0⟩⟩
theorem evs_of {n : Nat} {g : Nat → List Value} (h : ∀ i, i < n → PrimsV [.i .i64, .i .i64, .i .i64] (g i)) : ∃ f : Nat → Ev, ∀ i, i < n → g i = evsE f i := by
  have h1 : ∀ i, i < n → ∃ e : Ev, g i = evRow e := fun i hi => by
    obtain ⟨v1, vs1, e1, ⟨a, ha, _⟩, h2⟩ := prims_cons (h i hi)
    obtain ⟨v2, vs2, e2, ⟨b, hb, _⟩, h3⟩ := prims_cons h2
    obtain ⟨v3, vs3, e3, ⟨c, hc, _⟩, h4⟩ := prims_cons h3
    have e4 := prims_nil h4
    exact ⟨⟨a, b, c⟩, by rw [e1, e2, e3, e4, ha, hb, hc]; rfl⟩
  obtain ⟨f, hf⟩ := choose_lt h1
  exact ⟨f, hf⟩
theorem eventEncodes_law (ps : List OP) (h : typedPs Try.prog Try.f4.params.toList ps) : FSpec Try.prog 4 (heapC 0 (chksP ps)) (chksP ps).length (avsP 0 ps) fun x _ _ => x = sBool true := by
  rw [Try.params4] at h
  obtain ⟨p1, ps1, rfl, h1, h⟩ := typed_cons h
  obtain rfl := typed_nil h
  obtain ⟨n, g, l, F, rfl, _, hg⟩ := typed_slice (e := 29) h1 (by kernel_rfl) (by kernel_rfl) (cols := [.i .i64, .i .i64, .i .i64]) (by kernel_rfl)
  obtain ⟨f, hf⟩ := evs_of hg
  exact (encodes_spec f n).pre (And.intro (And.intro rfl (And.intro (Nat.le_refl _) fun i hi => hf i hi)) trivial)
end Go.Proofs.Ytfkhaicghoiijaa
