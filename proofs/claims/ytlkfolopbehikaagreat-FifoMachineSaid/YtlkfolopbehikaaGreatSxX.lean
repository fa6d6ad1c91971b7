/- part -/
import Derived.Test.YtlkfolopbehikaaGreatSxV
import Derived.Test.YtlkfolopbehikaaGreatSxW
set_option linter.unusedSimpArgs false
set_option linter.unusedVariables false
namespace Go.Sx
open Go
theorem ZAE.pre {P : Program} {f : FuncId} {h pre : Heap} {np : Nat} {args : List AV} {Q : SV -> Heap -> Nat -> Prop} (hsp : ZAE P f pre np args Q) (hall : ZBB id h pre) : ZAE P f h np args Q := by
 refine ⟨hsp.1, fun ρ φ w hm hok hgw hgf => ?_⟩
 have get : ∀ k e, hget pre k = some e -> ∃ e', hget h k = some e' /\ ZCe id e' e := fun k e hk => hall.get (ZAa hk)
 have hm' : HM pre (lt np) ρ φ w := by
  refine ⟨fun k e hk => ?_, fun k e hk => ?_, fun k k' e e' hk hk' hne ho b hb => ?_, fun k e hk b hb => ?_⟩
  ·obtain ⟨e', h1, h2⟩ := get k e hk
   exact h2.at_ (fun _ hk => hk) (hm.at_ k e' h1)
  ·obtain ⟨e', h1, h2⟩ := get k e hk; exact hm.lt k e' h1
  ·obtain ⟨e1, h1, h2⟩ := get k e hk
   obtain ⟨e2, h3, h4⟩ := get k' e' hk'
   exact hm.dj k k' e1 e2 h1 h3 hne (h2.own ho) b hb
  ·obtain ⟨e', h1, h2⟩ := get k e hk; exact hm.sz k e' h1 b hb
 have own : ∀ b, Own pre φ b -> Own h φ b := fun b ⟨k, e, h1, h2, h3⟩ => by
  obtain ⟨e', h4, h5⟩ := get k e h1
  exact ⟨k, e', h4, h5.own h2, h3⟩
 refine (hsp.2 ρ φ w hm' hok hgw fun b vs hb ho => hgf b vs hb (own b ho)).mono fun e w' ⟨x, h', n', ρ', φ', h1, h2, h3, h4, h5, h6, h7, h8⟩ => ⟨x, h', n', ρ', φ', h1, h2, h3, h4, h5, h6, ⟨h7.size, fun b hb hn => h7.blk b hb fun ho => hn (own b ho), h7.os, h7.tape, h7.output⟩, fun k e hk ho b hb => ?_⟩
 rcases h8 k e hk ho b hb with h9 | h9
 ·exact .inl (own b h9)
 ·exact .inr h9
theorem ZKS {α : Type} [Inhabited α] {n : Nat} {p : Nat -> α -> Prop} (h : ∀ i, i < n -> ∃ x, p i x) : ∃ f : Nat -> α, ∀ i, i < n -> p i (f i) := by
 have : ∀ i, ∃ x, i < n -> p i x := fun i => by
  by_cases hi : i < n
  ·obtain ⟨x, hx⟩ := h i hi; exact ⟨x, fun _ => hx⟩
  ·exact ⟨default, fun hh => absurd hh hi⟩
 exact Classical.axiomOfChoice this
theorem ZFV.refl : ∀ d : DV, ZFV d d
 | .v x => rfl
 | .sl w n f => ⟨rfl, rfl, fun i _ c _ => ZFV.refl (f i c)⟩
theorem ZER {c : Col} {cs : List Col} {vs : List Value} (h : ZC2 (c :: cs) vs) : ∃ v vs', vs = v :: vs' /\ ZPI c v /\ ZC2 cs vs' := by
 cases vs with
 | nil => exact h.elim
 | cons v vs => exact ⟨v, vs, rfl, h.1, h.2⟩
theorem ZKT {vs : List Value} (h : ZC2 [] vs) : vs = [] := by cases vs with | nil => rfl | cons => exact h.elim
end Go.Sx
