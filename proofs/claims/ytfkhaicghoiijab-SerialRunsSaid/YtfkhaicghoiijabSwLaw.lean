/- SerialParts: the contract of the law's function, over whatever is handed in. -/
import Derived.Test.YtfkhaicghoiijabSw
import Derived.Test.YtfkhaicghoiijabSxV
namespace Go.Proofs.Ytfkhaicghoiijab
open Go Go.Sx
theorem dd_told {f : Nat → List Value} {m : Nat} (hf : ∀ i, i < m → PrimsV [.i .i64, .i .i64, .i .u32] (f i)) : ∃ D : Nat → Dd, ∀ i, i < m → f i = ddE D i := by
  have : Inhabited Dd := ⟨⟨0, 0, 0⟩⟩
  exact choose_lt (α := Dd) (p := fun i x => f i = [.int .i64 x.k, .int .i64 x.c, .int .u32 x.n]) fun i hi => by
    obtain ⟨v1, l1, e1, ⟨k, rfl, _⟩, h1⟩ := prims_cons (hf i hi)
    obtain ⟨v2, l2, rfl, ⟨t, rfl, _⟩, h2⟩ := prims_cons h1
    obtain ⟨v3, l3, rfl, ⟨a, rfl, _⟩, h3⟩ := prims_cons h2
    obtain rfl := prims_nil h3
    exact ⟨⟨k, t, a⟩, e1⟩
theorem cells_told {P : Program} {xs : List OC} (hx : OCTs P (List.replicate 16 (.i .u32)) xs) : ∃ c : Nat → Int, xs = (List.range 16).map fun i => .v (.int .u32 (c i)) := by
  obtain ⟨x0, xs0, rfl, ⟨_, rfl, n0, rfl, _⟩, hx0⟩ := octs_cons hx
  obtain ⟨x1, xs1, rfl, ⟨_, rfl, n1, rfl, _⟩, hx1⟩ := octs_cons hx0
  obtain ⟨x2, xs2, rfl, ⟨_, rfl, n2, rfl, _⟩, hx2⟩ := octs_cons hx1
  obtain ⟨x3, xs3, rfl, ⟨_, rfl, n3, rfl, _⟩, hx3⟩ := octs_cons hx2
  obtain ⟨x4, xs4, rfl, ⟨_, rfl, n4, rfl, _⟩, hx4⟩ := octs_cons hx3
  obtain ⟨x5, xs5, rfl, ⟨_, rfl, n5, rfl, _⟩, hx5⟩ := octs_cons hx4
  obtain ⟨x6, xs6, rfl, ⟨_, rfl, n6, rfl, _⟩, hx6⟩ := octs_cons hx5
  obtain ⟨x7, xs7, rfl, ⟨_, rfl, n7, rfl, _⟩, hx7⟩ := octs_cons hx6
  obtain ⟨x8, xs8, rfl, ⟨_, rfl, n8, rfl, _⟩, hx8⟩ := octs_cons hx7
  obtain ⟨x9, xs9, rfl, ⟨_, rfl, n9, rfl, _⟩, hx9⟩ := octs_cons hx8
  obtain ⟨x10, xs10, rfl, ⟨_, rfl, n10, rfl, _⟩, hx10⟩ := octs_cons hx9
  obtain ⟨x11, xs11, rfl, ⟨_, rfl, n11, rfl, _⟩, hx11⟩ := octs_cons hx10
  obtain ⟨x12, xs12, rfl, ⟨_, rfl, n12, rfl, _⟩, hx12⟩ := octs_cons hx11
  obtain ⟨x13, xs13, rfl, ⟨_, rfl, n13, rfl, _⟩, hx13⟩ := octs_cons hx12
  obtain ⟨x14, xs14, rfl, ⟨_, rfl, n14, rfl, _⟩, hx14⟩ := octs_cons hx13
  obtain ⟨x15, xs15, rfl, ⟨_, rfl, n15, rfl, _⟩, hx15⟩ := octs_cons hx14
  obtain rfl := octs_nil hx15
  exact ⟨fun i => [n0, n1, n2, n3, n4, n5, n6, n7, n8, n9, n10, n11, n12, n13, n14, n15].getD i 0, rfl⟩
theorem serialParts_law (ps : List OP) (h : typedPs Try.prog Try.f4.params.toList ps) : FSpec Try.prog 4 (heapC 0 (chksP ps)) (chksP ps).length (avsP 0 ps) fun x _ _ => x = sBool true := by
  rw [Try.params4] at h
  obtain ⟨p1, ps1, rfl, h1, h⟩ := typed_cons h
  obtain ⟨p2, ps2, rfl, h2, h⟩ := typed_cons h
  obtain ⟨p3, ps3, rfl, h3, h⟩ := typed_cons h
  obtain rfl := typed_nil h
  obtain ⟨xs, rfl, hx⟩ := typed_cols h1 (cols := List.replicate 16 (.i .u32)) (b := true) (by kernel_rfl) (by kernel_rfl)
  obtain ⟨m, f, l, F, rfl, hm, hf⟩ := typed_slice (e := 79) (cols := [.i .i64, .i .i64, .i .u32]) h2 (by kernel_rfl) (by kernel_rfl) (by kernel_rfl)
  obtain ⟨n, rfl, hn0, hn1⟩ := typed_int (k := .i64) h3 (by kernel_rfl) (by kernel_rfl)
  obtain ⟨c, rfl⟩ := cells_told hx
  obtain ⟨D, hD⟩ := dd_told hf
  have hm2 : m ≤ 5864062014634 := by
    have := hm.2
    rw [show Try.prog.bytesOf 79 = 24 by kernel_rfl] at this
    unfold reachBytes at this
    omega
  exact (sparts_spec D m c n hm2).pre (And.intro (And.intro rfl (And.intro (Nat.le_refl _) fun i hi => hD i hi)) trivial)
end Go.Proofs.Ytfkhaicghoiijab
