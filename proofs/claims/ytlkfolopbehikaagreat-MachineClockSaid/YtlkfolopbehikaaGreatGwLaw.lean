/- MachineClock: the contract of the law's function, over whatever is handed in. -/
import Derived.Test.YtlkfolopbehikaaGreatMd
import Derived.Test.YtlkfolopbehikaaGreatSxV
set_option linter.unusedVariables false
namespace Go.Proofs.YtlkfolopbehikaaGreat
open Go Go.Sx
theorem ZNa {f : Nat -> List Value} {m : Nat} (hf : ∀ i, i < m -> ZC9 [.i .i64] (f i)) : ∃ h : Nat -> Int, ∀ i, i < m -> numE h i = f i := by
 obtain ⟨g, hg⟩ := ZJ3 (α := Int) (p := fun i x => ([.int .i64 x] : List Value) = f i) (n := m) fun i hi => by
  obtain ⟨v1, l1, e1, ⟨k, rfl, hk⟩, h1⟩ := ZEL (hf i hi)
  obtain rfl := ZJ4 h1
  exact ⟨k, e1.symm⟩
 exact ⟨g, hg⟩
theorem ZNb {p : OP} (h : p.1 = ZCh Tryz.prog 25 /\ ∃ cols, ZC8 Tryz.prog 6 25 = some cols /\ OCTs Tryz.prog cols p.2) :
  ∃ (kind : Int) (m : Nat) (f : Nat -> List Value) (l : Go.Sx.Loc) (F : List Nat) (start : Nat) (slots pool budget glob loc : Int),
   p = (true, [.v (.int .i64 kind), .c ⟨.ro 1 m f, fun k => .s k 1 0 m 0, l, F⟩, .v (.int .u32 start), .v (.int .i64 slots), .v (.int .i64 pool), .v (.int .i64 budget), .v (.int .i64 glob), .v (.int .i64 loc)]) /\
   start < 4294967296 /\ Lim Tryz.prog 3 m /\ ∀ i, i < m -> ZC9 [.i .i64] (f i) := by
 obtain ⟨xs, rfl, hh⟩ := ZHf (cols := [.i .i64, .sl 3, .i .u32, .i .i64, .i .i64, .i .i64, .i .i64, .i .i64]) (b := true) h (by kernel_rfl) (by kernel_rfl)
 obtain ⟨x1, y1, rfl, q1, hh⟩ := ZCK hh
 obtain ⟨x2, y2, rfl, q2, hh⟩ := ZCK hh
 obtain ⟨x3, y3, rfl, q3, hh⟩ := ZCK hh
 obtain ⟨x4, y4, rfl, q4, hh⟩ := ZCK hh
 obtain ⟨x5, y5, rfl, q5, hh⟩ := ZCK hh
 obtain ⟨x6, y6, rfl, q6, hh⟩ := ZCK hh
 obtain ⟨x7, y7, rfl, q7, hh⟩ := ZCK hh
 obtain ⟨x8, y8, rfl, q8, hh⟩ := ZCK hh
 obtain rfl := ZLm hh
 obtain ⟨_, rfl, kind, rfl, _⟩ := q1
 obtain ⟨m, f, l, F, rfl, hm, hf⟩ := ZJ1 (cols := [.i .i64]) q2 (by kernel_rfl)
 obtain ⟨_, rfl, st, rfl, hs⟩ := q3
 obtain ⟨_, rfl, s4, rfl, _⟩ := q4
 obtain ⟨_, rfl, s5, rfl, _⟩ := q5
 obtain ⟨_, rfl, s6, rfl, _⟩ := q6
 obtain ⟨_, rfl, s7, rfl, _⟩ := q7
 obtain ⟨_, rfl, s8, rfl, _⟩ := q8
 have hs1 : (0 : Int) <= st := hs.1
 have hs2 : st <= (4294967295 : Int) := hs.2
 obtain ⟨start, rfl⟩ : ∃ n : Nat, st = n := ⟨st.toNat, by omega⟩
 exact ⟨kind, m, f, l, F, start, s4, s5, s6, s7, s8, rfl, by omega, hm, hf⟩
theorem ZOj {f : Nat -> List Value} {m : Nat} (hf : ∀ i, i < m -> ZC9 [.i .i64, .i .i64, .i .i64] (f i)) : ∃ ek et ew : Nat -> Int, ∀ i, i < m -> evR ek et ew i = f i := by
 obtain ⟨g, hg⟩ := ZJ3 (α := Int × Int × Int) (p := fun i x => ([.int .i64 x.1, .int .i64 x.2.1, .int .i64 x.2.2] : List Value) = f i) (n := m) fun i hi => by
  obtain ⟨v1, l1, e1, ⟨k1, rfl, _⟩, h1⟩ := ZEL (hf i hi)
  obtain ⟨v2, l2, rfl, ⟨k2, rfl, _⟩, h2⟩ := ZEL h1
  obtain ⟨v3, l3, rfl, ⟨k3, rfl, _⟩, h3⟩ := ZEL h2
  obtain rfl := ZJ4 h3
  exact ⟨(k1, k2, k3), e1.symm⟩
 exact ⟨fun i => (g i).1, fun i => (g i).2.1, fun i => (g i).2.2, hg⟩
theorem ZOk {kind : Int} {m : Nat} {h : Nat -> Int} {slots pool budget glob loc : Int} {l : Nat} {most : Int} (hf : ZKP kind m h slots pool budget glob loc l most = true) : m <= 8 /\ ZB7 kind m h slots pool budget glob loc = 0 /\ (l : Int) <= most := by
 simpa [ZKP, and_assoc] using hf
theorem ZKQ (kind : Int) (m : Nat) (h : Nat -> Int) (start : Nat) (slots pool budget glob loc : Int) (l : Nat) (ek et ew : Nat -> Int) (hs : start < 4294967296) :
  ZAH Tryz.prog 5 [(0, some (.ro 1 m (numE h))), (1, some (.ro 3 l (evR ek et ew)))] 2 [ZB8 kind 0 m start slots pool budget glob loc, .l (.s 1 3 0 l 0)] fun x h' k => x = ZAb true := by
 refine ZAH.mono (Q := fun x h' k => x = ZAb true /\ k = 2 /\ h' = []) ?_ fun x h k hx => hx.1
 cases hf : ZKP kind m h slots pool budget glob loc l 300 with
 | false => exact ZNY ZGN kind m h start slots pool budget glob loc l _ hf
 | true =>
  obtain ⟨h1, h2, h3⟩ := ZOk hf
  obtain ⟨S, nw, hs', s, N⟩ := ZKM h2 hs
  exact ZNZ ZGN kind m h start slots pool budget glob loc l ek et ew hf h1 (by omega) S nw hs' s N
theorem machineClock_law (ps : List OP) (h : ZEs Tryz.prog Tryz.f5.params.toList ps) : ZAH Tryz.prog 5 (ZK9 0 (ZGv ps)) (ZGv ps).length (avsP 0 ps) fun x _ _ => x = ZAb true := by
 rw [Tryz.params5] at h
 obtain ⟨p1, ps1, rfl, h1, h⟩ := ZHe h
 obtain ⟨p2, ps2, rfl, h2, h⟩ := ZHe h
 obtain rfl := ZOR h
 obtain ⟨kind, m, f, l, F, start, slots, pool, budget, glob, loc, rfl, hs, hm, hf⟩ := ZNb h1
 obtain ⟨N, g, l2, F2, rfl, hN, hg⟩ := ZLB (e := 41) (cols := [.i .i64, .i .i64, .i .i64]) h2 (by kernel_rfl) (by kernel_rfl) (by kernel_rfl)
 obtain ⟨H, hH⟩ := ZNa hf
 obtain ⟨ek, et, ew, hE⟩ := ZOj hg
 exact (ZKQ kind m H start slots pool budget glob loc N ek et ew hs).pre (And.intro (And.intro rfl (And.intro (Nat.le_refl _) fun i hi => (hH i hi).symm)) (And.intro (And.intro rfl (And.intro (Nat.le_refl _) fun i hi => (hE i hi).symm)) trivial))
end Go.Proofs.YtlkfolopbehikaaGreat
