/- EventParts: the contract of the law's function, over whatever is handed in. -/
import Derived.Test.YtfkhaicghoiijaaEg
namespace Go.Proofs.Ytfkhaicghoiijaa
open Go Go.Sx
theorem bytes_of {n : Nat} {g : Nat → List Value} (h : ∀ i, i < n → PrimsV [.i .u8] (g i)) : ∃ B : List Nat, B.length = n ∧ (∀ b ∈ B, b < 256) ∧ ∀ i, i < n → g i = bytesE B i := by
  have h1 : ∀ i, i < n → ∃ b : Nat, b < 256 ∧ g i = [.int .u8 (b : Int)] := fun i hi => by
    obtain ⟨v, vs, e1, ⟨a, ha, h0, h1⟩, h2⟩ := prims_cons (h i hi)
    have e2 := prims_nil h2
    have h0 : (0 : Int) ≤ a := h0
    have h1 : a ≤ 255 := h1
    exact ⟨a.toNat, by omega, by rw [e1, e2, ha, Int.toNat_of_nonneg h0]⟩
  obtain ⟨f, hf⟩ := choose_lt h1
  refine ⟨(List.range n).map f, by simp, fun b hb => ?_, fun i hi => ?_⟩
  · obtain ⟨i, hi, rfl⟩ := List.mem_map.1 hb
    exact (hf i (List.mem_range.1 hi)).1
  · rw [(hf i hi).2]; simp [bytesE, hi]
theorem eventParts_law (ps : List OP) (h : typedPs Try.prog Try.f5.params.toList ps) : FSpec Try.prog 5 (heapC 0 (chksP ps)) (chksP ps).length (avsP 0 ps) fun x _ _ => x = sBool true := by
  rw [Try.params5] at h
  obtain ⟨p1, ps1, rfl, h1, h⟩ := typed_cons h
  obtain ⟨p2, ps2, rfl, h2, h⟩ := typed_cons h
  obtain rfl := typed_nil h
  obtain ⟨n, g, l, F, rfl, hn, hg⟩ := typed_slice (e := 29) h1 (by kernel_rfl) (by kernel_rfl) (cols := [.i .i64, .i .i64, .i .i64]) (by kernel_rfl)
  obtain ⟨n2, g2, l2, F2, rfl, hn2, hg2⟩ := typed_slice (e := 5) h2 (by kernel_rfl) (by kernel_rfl) (cols := [.i .u8]) (by kernel_rfl)
  obtain ⟨f, hf⟩ := evs_of hg
  obtain ⟨B, rfl, hb, hB⟩ := bytes_of hg2
  exact (parts_spec f n B hb hn2 hn).pre (And.intro (And.intro rfl (And.intro (Nat.le_refl _) fun i hi => hf i hi)) (And.intro (And.intro rfl (And.intro (Nat.le_refl _) fun i hi => hB i hi)) trivial))
end Go.Proofs.Ytfkhaicghoiijaa
