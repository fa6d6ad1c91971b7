/- part -/
import Derived.Test.YtlkfolopbehikaaGreatSxV
import Derived.Test.YtlkfolopbehikaaGreatSxW
set_option linter.unusedSimpArgs false
set_option linter.unusedVariables false
namespace Go.Sx
open Go
theorem ZAC.pre {P : Program} {f : FuncId} {h pre : Heap} {np : Nat} {args : List AV} {Q : SV -> Heap -> Nat -> Prop} (hsp : ZAC P f pre np args Q) (hall : ZBC id h pre) : ZAC P f h np args Q := by
 refine ⟨hsp.1, fun ρ φ w hm hok hgw hgf => ?_⟩
 have get : ∀ k e, hget pre k = some e -> ∃ e', hget h k = some e' /\ ZCT id e' e := fun k e hk => hall.get (ZAh hk)
 have hm' : HM pre (lt np) ρ φ w := by
  refine ⟨fun k e hk => ?_, fun k e hk => ?_, fun k k' e e' hk hk' hne ho b hb => ?_, fun k e hk b hb => ?_⟩
  ·obtain ⟨e', h1, h2⟩ := get k e hk
   exact h2.at_ (fun _ hk => hk) (hm.at_ k e' h1)
  ·obtain ⟨e', h1, h2⟩ := get k e hk; exact hm.lt k e' h1
  ·obtain ⟨e1, h1, h2⟩ := get k e hk
   obtain ⟨e2, h3, h4⟩ := get k' e' hk'
   exact hm.dj k k' e1 e2 h1 h3 hne (h2.own ho) b hb
  ·obtain ⟨e', h1, h2⟩ := get k e hk; exact hm.sz k e' h1 b hb
 have own : ∀ b, Own pre φ b -> Own h φ b := fun b ⟨k, e, h1, h2, h3⟩ => by
  obtain ⟨e', h4, h5⟩ := get k e h1
  exact ⟨k, e', h4, h5.own h2, h3⟩
 refine (hsp.2 ρ φ w hm' hok hgw fun b vs hb ho => hgf b vs hb (own b ho)).mono fun e w' ⟨x, h', n', ρ', φ', h1, h2, h3, h4, h5, h6, h7, h8⟩ => ⟨x, h', n', ρ', φ', h1, h2, h3, h4, h5, h6, ⟨h7.size, fun b hb hn => h7.blk b hb fun ho => hn (own b ho), h7.os, h7.tape, h7.output⟩, fun k e hk ho b hb => ?_⟩
 rcases h8 k e hk ho b hb with h9 | h9
 ·exact .inl (own b h9)
 ·exact .inr h9
theorem ZJ7 {α : Type} [Inhabited α] {n : Nat} {p : Nat -> α -> Prop} (h : ∀ i, i < n -> ∃ x, p i x) : ∃ f : Nat -> α, ∀ i, i < n -> p i (f i) := by
 have : ∀ i, ∃ x, i < n -> p i x := fun i => by
  by_cases hi : i < n
  ·obtain ⟨x, hx⟩ := h i hi; exact ⟨x, fun _ => hx⟩
  ·exact ⟨default, fun hh => absurd hh hi⟩
 exact Classical.axiomOfChoice this
theorem ZFE.refl : ∀ d : DV, ZFE d d
 | .v x => rfl
 | .sl w n f => ⟨rfl, rfl, fun i _ c _ => ZFE.refl (f i c)⟩
theorem ZEF {c : Col} {cs : List Col} {vs : List Value} (h : ZC4 (c :: cs) vs) : ∃ v vs', vs = v :: vs' /\ ZOQ c v /\ ZC4 cs vs' := by
 cases vs with
 | nil => exact h.elim
 | cons v vs => exact ⟨v, vs, rfl, h.1, h.2⟩
theorem ZJ8 {vs : List Value} (h : ZC4 [] vs) : vs = [] := by cases vs with | nil => rfl | cons => exact h.elim
theorem ZPI {G : Ctx} {r : Regs} {h : Heap} {n : Nat} (k j wd : Nat) (cs : List LV) (hk : hget h k = some (.st cs)) (hj : nth cs j = some (.v (.slice none 0 0))) :
  Imp G r h n r ((k, some (.st (setL cs j (.s n wd 0 0 0)))) :: (n, some (.ar wd 0 fun _ => [])) :: h) (n + 1) := by
 intro a w ⟨ρ, φ, g, hr, hsz, hdf⟩
 have hρ : ∀ k, lt n k -> (fun k => if k = n then nilL else ρ k) k = ρ k := fun k hk => by simp only [lt] at hk; simp [Nat.ne_of_lt hk]
 have hkn : k ≠ n := Nat.ne_of_lt (g.hm.lt k _ hk)
 have g1 := ZPY g wd (fun _ => [])
 have hk1 : hget ((n, some (.ar wd 0 fun _ => [])) :: h) k = some (.st cs) := by rw [ZAJ, if_neg (Ne.symm hkn)]; exact hk
 have hE := g1.hm.at_ k _ hk1
 obtain ⟨e1, e2, e3, ⟨t, e4⟩, e5⟩ := hE
 rw [ZAo] at hj
 refine ⟨_, _, GM.put g1 k (.st (setL cs j (.s n wd 0 0 0))) ((fun k => if k = n then [] else φ k) k) (fun _ _ => rfl) (fun _ h => h) (g1.hm.lt k _ hk1) (fun _ _ _ _ _ _ => rfl) ⟨e1, e2, e3, ⟨t, ?_⟩, fun x hx => ?_⟩ (fun b hb => g1.hm.sz k _ hk1 b hb)
  (fun k' e' hk' hne b hb hb' => g1.hm.dj k k' _ e' hk1 hk' (Ne.symm hne) rfl b hb' hb) (fun _ b hb => g1.ow k _ hk1 rfl b hb) g1.frm (Nat.le_refl _), hr.mono hρ fun k hk => Nat.lt_succ_of_lt hk, hsz, hdf⟩
 ·rw [e4]
  congr 2
  rw [ZCN, List.map_set]
  congr 1
  apply List.ext_getElem?
  intro i
  rw [List.getElem?_set]
  split
  ·rename_i hij
   subst hij
   have hlt := (List.getElem?_eq_some_iff.1 hj).1
   rw [List.getElem?_map, hj]
   simp [hlt, LV.at, nilL]
  ·rfl
 ·rw [ZCN] at hx
  rcases List.mem_or_eq_of_mem_set hx with hx | rfl
  ·exact e5 x hx
  ·exact ⟨Nat.lt_succ_self n, fun _ => rfl, fun hh => by simp [nilL] at hh⟩
end Go.Sx
