/- part -/
import Derived.Test.YtlkfolopbehikaaGreatSxPR
import Derived.Test.YtlkfolopbehikaaGreatSxPN
set_option linter.unusedSimpArgs false
set_option linter.unusedVariables false
namespace Go.Sx
open Go
theorem ZAb {G : Ctx} {ty e : TypeId} {m : Nat} {t u : Nat} {r : Regs} {h : Heap} {n : Nat} {K : SV -> Heap -> Nat -> Prop} {xs : List LV} {c : Nat} {v : LV} {q : IntKind}
  (ht : G.P.underlying ty = some (.array m e)) (hd : (G.P.underlying e).map ZDx = some false) (hi : (G.P.info? e).map (·.size) = some 1)
  (hx : rget r t = some (.o (.a xs))) (hy : rget r u = some (.o (.l (.v (.int q (c : Int)))))) (hc : c < m) (hv : nth xs c = some v) (hK : K (.o (.l v)) [] n) : EscP G (.index ty (.tmp t) (.tmp u)) r h n K := by
 rw [ZCy]
 intro G' hP o ρ φ a w ho g hr
 rw [<- hP] at ht hd hi
 obtain ⟨i, hi, h1⟩ := Option.map_eq_some_iff.1 hi
 obtain ⟨d, hd, hag⟩ := Option.map_eq_some_iff.1 hd
 obtain ⟨k1, k2⟩ := ZAD hr (X := .tmp t) (x := .r t) rfl (v := .a xs) (by simp only [oget, hx])
 obtain ⟨k3, k4⟩ := ZAD hr (X := .tmp u) (x := .r u) rfl (v := .l (.v (.int q (c : Int)))) (by simp only [oget, hy])
 rw [ZAo] at hv
 refine .of_runs (ZAO g (x := .o (.l v)) (k2 v (List.mem_of_getElem? hv)) hK ?_)
 simp only [AV.at, LV.at] at k1 k3
 have hcc : (c : Int) < (m : Int) := by omega
 simp [execOp, ho, k1, k3, Instr.index, asIntOf, run_underlying ht, hcc, part, ZA9 hd, hag, ZAd hi, h1, hv, SV.at, AV.at]
 intro hh; omega
theorem ZAQ.cell {h : Heap} {n : Nat} (k j : Nat) (y : LV) {cs : List LV} {x : LV} (hk : hget h k = some (.st cs)) (hj : nth cs j = some x) (hat : ∀ ρ, y.at ρ = x.at ρ) (hok : ∀ ρ, x.ok ρ (lt n) -> y.ok ρ (lt n)) : ZAQ h n ((k, some (.st (setL cs j y))) :: h) n := by
 refine ⟨Nat.le_refl n, fun ρ φ w hm => ?_⟩
 rw [ZAo] at hj
 obtain ⟨e1, e2, e3, e4, e5⟩ := hm.at_ k _ hk
 have old : ∀ j' e, hget ((k, some (.st (setL cs j y))) :: h) j' = some e -> ∃ e', hget h j' = some e' /\ e'.own = e.own := fun j' e hj' => by
  rw [ZAJ] at hj'
  split at hj'
  ·rename_i hh; subst hh; cases hj'; exact ⟨_, hk, rfl⟩
  ·exact ⟨e, hj', rfl⟩
 refine ⟨ρ, φ, fun _ _ => rfl, ZJq hm hk ?_ fun z hz => ?_, fun j' e hj' ho b hb => ?_, fun j' e hj' b hb => ?_⟩
 ·rw [ZCt, List.map_set]
  apply List.ext_getElem?
  intro i
  rw [List.getElem?_set]
  split
  ·rename_i hij
   subst hij
   have hlt := (List.getElem?_eq_some_iff.1 hj).1
   rw [List.getElem?_map, hj]
   simp [hlt, hat]
  ·rfl
 ·rw [ZCt] at hz
  rcases List.mem_or_eq_of_mem_set hz with hz | rfl
  ·exact e5 z hz
  ·exact hok ρ (e5 x (List.mem_of_getElem? hj))
 ·obtain ⟨e', h1, h2⟩ := old j' e hj'
  exact ⟨j', e', h1, by rw [h2]; exact ho, hb⟩
 ·obtain ⟨e', h1, h2⟩ := old j' e hj'
  exact ⟨j', e', h1, hb⟩
theorem ZAQ.reob {h : Heap} {n : Nat} (k : Nat) (ks2 : List Nat) (R2 : List Loc -> Loc -> List Nat -> World -> Prop) {ks : List Nat} {R : List Loc -> Loc -> List Nat -> World -> Prop} (hk : hget h k = some (.ob ks R)) (hn : ∀ j ∈ ks2, j < n) (hs : ∀ ls, ZCc (R2 ls))
  (hR : ∀ ls ls2 l F w, R ls l F w -> R2 ls2 l F w) : ZAQ h n ((k, some (.ob ks2 R2)) :: h) n := by
 refine ⟨Nat.le_refl n, fun ρ φ w hm => ?_⟩
 obtain ⟨e1, e2, e3⟩ := hm.at_ k _ hk
 have old : ∀ j' e, hget ((k, some (.ob ks2 R2)) :: h) j' = some e -> ∃ e', hget h j' = some e' /\ e'.own = e.own := fun j' e hj' => by
  rw [ZAJ] at hj'
  split at hj'
  ·rename_i hh; subst hh; cases hj'; exact ⟨_, hk, rfl⟩
  ·exact ⟨e, hj', rfl⟩
 refine ⟨ρ, φ, fun _ _ => rfl, ZGl hm hk rfl ⟨hs _, hn, hR _ _ _ _ _ e3⟩, fun j' e hj' ho b hb => ?_, fun j' e hj' b hb => ?_⟩
 ·obtain ⟨e', h1, h2⟩ := old j' e hj'
  exact ⟨j', e', h1, by rw [h2]; exact ho, hb⟩
 ·obtain ⟨e', h1, h2⟩ := old j' e hj'
  exact ⟨j', e', h1, hb⟩
def OptR (b : Bool) (R : List Loc -> Loc -> List Nat -> World -> Prop) : List Loc -> Loc -> List Nat -> World -> Prop := fun ls l F w => (b = true -> R ls l F w) /\ (b = false -> F = [])
theorem ZAH {b : Bool} {R : List Loc -> Loc -> List Nat -> World -> Prop} (hs : ∀ ls, ZCc (R ls)) (ls : List Loc) : ZCc (OptR b R ls) := fun l F w w' ⟨h1, h2⟩ hw => ⟨fun hb => hs ls l F w w' (h1 hb) hw, h2⟩
theorem ZCV (R : List Loc -> Loc -> List Nat -> World -> Prop) (w : World) : OptR false R [] nilL [] w := ⟨fun h => (by cases h), fun _ => rfl⟩
theorem ZA3 {b : Bool} {R : List Loc -> Loc -> List Nat -> World -> Prop} (hb : b = true) {ls : List Loc} {l : Loc} {F : List Nat} {w : World} (h : R ls l F w) : OptR b R ls l F w := ⟨fun _ => h, fun h => (by rw [hb] at h; cases h)⟩
theorem ZDG {b : Bool} {R R' : List Loc -> Loc -> List Nat -> World -> Prop} (hb : b = false) {ls ls' : List Loc} {l : Loc} {F : List Nat} {w : World} (h : OptR b R ls l F w) : OptR b R' ls' l F w := ⟨fun h => (by rw [hb] at h; cases h), h.2⟩
theorem ZDH {b : Bool} {R R' : List Loc -> Loc -> List Nat -> World -> Prop} (hb : b = false) {ls ls' : List Loc} {l : Loc} {F : List Nat} {w : World} (h : OptR false R ls l F w) : OptR b R' ls' l F w := ⟨fun h => (by rw [hb] at h; cases h), fun _ => h.2 rfl⟩
theorem ZFn {G : Ctx} {b : Bool} {t : TypeId} {k : Nat} {name : String} {xs : List AV} {h : Heap} {n : Nat} {K : SV -> Heap -> Nat -> Prop} (hb : b = true) (hi : InvP G (.l (.i t k)) name xs h n K) : InvP G (.l (.io b t k)) name xs h n K := by
 subst hb
 rw [ZDi] at hi ⊢
 exact fun G' hG' ρ φ w g hr hxs => hi G' hG' ρ φ w g hr hxs
end Go.Sx
