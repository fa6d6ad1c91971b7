/- MachineNews: the contract of the law's function, over whatever is handed in. -/
import Derived.Test.YtlkfolopbehikaaGreatMc
import Derived.Test.YtlkfolopbehikaaGreatSxV
set_option linter.unusedVariables false
namespace Go.Proofs.YtlkfolopbehikaaGreat
open Go Go.Sx
theorem numk_told {f : Nat → List Value} {m : Nat} (hf : ∀ i, i < m → PrimsV [.i .i64] (f i)) : ∃ h : Nat → Int, ∀ i, i < m → numE h i = f i := by
  obtain ⟨g, hg⟩ := choose_lt (α := Int) (p := fun i x => ([.int .i64 x] : List Value) = f i) (n := m) fun i hi => by
    obtain ⟨v1, l1, e1, ⟨k, rfl, hk⟩, h1⟩ := prims_cons (hf i hi)
    obtain rfl := prims_nil h1
    exact ⟨k, e1.symm⟩
  exact ⟨g, hg⟩
theorem conf_told {p : OP} (h : p.1 = isAggT Tryz.prog 25 ∧ ∃ cols, colsT Tryz.prog 6 25 = some cols ∧ OCTs Tryz.prog cols p.2) :
    ∃ (kind : Int) (m : Nat) (f : Nat → List Value) (l : Go.Sx.Loc) (F : List Nat) (start : Nat) (slots pool budget glob loc : Int),
      p = (true, [.v (.int .i64 kind), .c ⟨.ro 1 m f, fun k => .s k 1 0 m 0, l, F⟩, .v (.int .u32 start), .v (.int .i64 slots), .v (.int .i64 pool), .v (.int .i64 budget), .v (.int .i64 glob), .v (.int .i64 loc)]) ∧
      start < 4294967296 ∧ Lim Tryz.prog 3 m ∧ ∀ i, i < m → PrimsV [.i .i64] (f i) := by
  obtain ⟨xs, rfl, hh⟩ := typed_cols (cols := [.i .i64, .sl 3, .i .u32, .i .i64, .i .i64, .i .i64, .i .i64, .i .i64]) (b := true) h (by kernel_rfl) (by kernel_rfl)
  obtain ⟨x1, y1, rfl, q1, hh⟩ := octs_cons hh
  obtain ⟨x2, y2, rfl, q2, hh⟩ := octs_cons hh
  obtain ⟨x3, y3, rfl, q3, hh⟩ := octs_cons hh
  obtain ⟨x4, y4, rfl, q4, hh⟩ := octs_cons hh
  obtain ⟨x5, y5, rfl, q5, hh⟩ := octs_cons hh
  obtain ⟨x6, y6, rfl, q6, hh⟩ := octs_cons hh
  obtain ⟨x7, y7, rfl, q7, hh⟩ := octs_cons hh
  obtain ⟨x8, y8, rfl, q8, hh⟩ := octs_cons hh
  obtain rfl := octs_nil hh
  obtain ⟨_, rfl, kind, rfl, _⟩ := q1
  obtain ⟨m, f, l, F, rfl, hm, hf⟩ := oct_slice (cols := [.i .i64]) q2 (by kernel_rfl)
  obtain ⟨_, rfl, st, rfl, hs⟩ := q3
  obtain ⟨_, rfl, s4, rfl, _⟩ := q4
  obtain ⟨_, rfl, s5, rfl, _⟩ := q5
  obtain ⟨_, rfl, s6, rfl, _⟩ := q6
  obtain ⟨_, rfl, s7, rfl, _⟩ := q7
  obtain ⟨_, rfl, s8, rfl, _⟩ := q8
  have hs1 : (0 : Int) ≤ st := hs.1
  have hs2 : st ≤ (4294967295 : Int) := hs.2
  obtain ⟨start, rfl⟩ : ∃ n : Nat, st = n := ⟨st.toNat, by omega⟩
  exact ⟨kind, m, f, l, F, start, s4, s5, s6, s7, s8, rfl, by omega, hm, hf⟩
theorem machineNews_law (ps : List OP) (h : typedPs Tryz.prog Tryz.f3.params.toList ps) : FSpec Tryz.prog 3 (heapC 0 (chksP ps)) (chksP ps).length (avsP 0 ps) fun x _ _ => x = sBool true := by
  rw [Tryz.params3] at h
  obtain ⟨p1, ps1, rfl, h1, h⟩ := typed_cons h
  obtain rfl := typed_nil h
  obtain ⟨kind, m, f, l, F, start, slots, pool, budget, glob, loc, rfl, hs, hm, hf⟩ := conf_told h1
  obtain ⟨H, hH⟩ := numk_told hf
  exact (mnews_spec kind m H start slots pool budget glob loc hs).pre (And.intro (And.intro rfl (And.intro (Nat.le_refl _) fun i hi => (hH i hi).symm)) trivial)
end Go.Proofs.YtlkfolopbehikaaGreat
