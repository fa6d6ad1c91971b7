/- part -/
import Derived.Test.YtlkfolopbehikaaGreatSxPR
import Derived.Test.YtlkfolopbehikaaGreatSxPN
set_option linter.unusedSimpArgs false
set_option linter.unusedVariables false
namespace Go.Sx
open Go
theorem ZAW.cell {h : Heap} {n : Nat} (k j : Nat) (y : LV) {cs : List LV} {x : LV} (hk : hget h k = some (.st cs)) (hj : nth cs j = some x) (hat : ∀ ρ, y.at ρ = x.at ρ) (hok : ∀ ρ, x.ok ρ (lt n) -> y.ok ρ (lt n)) : ZAW h n ((k, some (.st (setL cs j y))) :: h) n := by
 refine ⟨Nat.le_refl n, fun ρ φ w hm => ?_⟩
 rw [ZAc] at hj
 obtain ⟨e1, e2, e3, e4, e5⟩ := hm.at_ k _ hk
 have old : ∀ j' e, hget ((k, some (.st (setL cs j y))) :: h) j' = some e -> ∃ e', hget h j' = some e' /\ e'.own = e.own := fun j' e hj' => by
  rw [ZAJ] at hj'
  split at hj'
  ·rename_i hh; subst hh; cases hj'; exact ⟨_, hk, rfl⟩
  ·exact ⟨e, hj', rfl⟩
 refine ⟨ρ, φ, fun _ _ => rfl, ZKE hm hk ?_ fun z hz => ?_, fun j' e hj' ho b hb => ?_, fun j' e hj' b hb => ?_⟩
 ·rw [ZCr, List.map_set]
  apply List.ext_getElem?
  intro i
  rw [List.getElem?_set]
  split
  ·rename_i hij
   subst hij
   have hlt := (List.getElem?_eq_some_iff.1 hj).1
   rw [List.getElem?_map, hj]
   simp [hlt, hat]
  ·rfl
 ·rw [ZCr] at hz
  rcases List.mem_or_eq_of_mem_set hz with hz | rfl
  ·exact e5 z hz
  ·exact hok ρ (e5 x (List.mem_of_getElem? hj))
 ·obtain ⟨e', h1, h2⟩ := old j' e hj'
  exact ⟨j', e', h1, by rw [h2]; exact ho, hb⟩
 ·obtain ⟨e', h1, h2⟩ := old j' e hj'
  exact ⟨j', e', h1, hb⟩
def OptR (b : Bool) (R : List Loc -> Loc -> List Nat -> World -> Prop) : List Loc -> Loc -> List Nat -> World -> Prop := fun ls l F w => (b = true -> R ls l F w) /\ (b = false -> F = [])
theorem ZBj {b : Bool} {R : List Loc -> Loc -> List Nat -> World -> Prop} (hs : ∀ ls, ZDb (R ls)) (ls : List Loc) : ZDb (OptR b R ls) := fun l F w w' ⟨h1, h2⟩ hw => ⟨fun hb => hs ls l F w w' (h1 hb) hw, h2⟩
theorem ZEE {b : Bool} {R : List Loc -> Loc -> List Nat -> World -> Prop} (hb : b = true) {ls : List Loc} {l : Loc} {F : List Nat} {w : World} (h : R ls l F w) : OptR b R ls l F w := ⟨fun _ => h, fun h => (by rw [hb] at h; cases h)⟩
end Go.Sx
