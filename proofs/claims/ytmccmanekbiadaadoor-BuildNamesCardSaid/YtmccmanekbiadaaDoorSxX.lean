/- The symbolic walk, part X: small words for the laws' texts. -/
import Derived.Test.YtmccmanekbiadaaDoorSxV
import Derived.Test.YtmccmanekbiadaaDoorSxW
set_option linter.unusedSimpArgs false
set_option linter.unusedVariables false
namespace Go.Sx
open Go

/-- What is known ahead of a call may be told in other words. -/
theorem FSpec.pre {P : Program} {f : FuncId} {h pre : Heap} {np : Nat} {args : List AV} {Q : SV → Heap → Nat → Prop} (hsp : FSpec P f pre np args Q) (hall : HasAll id h pre) : FSpec P f h np args Q := by
  refine ⟨hsp.1, fun ρ φ w hm hok hgw hgf => ?_⟩
  have get : ∀ k e, hget pre k = some e → ∃ e', hget h k = some e' ∧ EntLe id e' e := fun k e hk => hall.get (hget_mem hk)
  have hm' : HM pre (lt np) ρ φ w := by
    refine ⟨fun k e hk => ?_, fun k e hk => ?_, fun k k' e e' hk hk' hne ho b hb => ?_, fun k e hk b hb => ?_⟩
    · obtain ⟨e', h1, h2⟩ := get k e hk
      exact h2.at_ (fun _ hk => hk) (hm.at_ k e' h1)
    · obtain ⟨e', h1, h2⟩ := get k e hk; exact hm.lt k e' h1
    · obtain ⟨e1, h1, h2⟩ := get k e hk
      obtain ⟨e2, h3, h4⟩ := get k' e' hk'
      exact hm.dj k k' e1 e2 h1 h3 hne (h2.own ho) b hb
    · obtain ⟨e', h1, h2⟩ := get k e hk; exact hm.sz k e' h1 b hb
  have own : ∀ b, Own pre φ b → Own h φ b := fun b ⟨k, e, h1, h2, h3⟩ => by
    obtain ⟨e', h4, h5⟩ := get k e h1
    exact ⟨k, e', h4, h5.own h2, h3⟩
  refine (hsp.2 ρ φ w hm' hok hgw fun b vs hb ho => hgf b vs hb (own b ho)).mono fun e w' ⟨x, h', n', ρ', φ', h1, h2, h3, h4, h5, h6, h7, h8⟩ => ⟨x, h', n', ρ', φ', h1, h2, h3, h4, h5, h6, ⟨h7.size, fun b hb hn => h7.blk b hb fun ho => hn (own b ho), h7.os, h7.tape, h7.output⟩, fun k e hk ho b hb => ?_⟩
  rcases h8 k e hk ho b hb with h9 | h9
  · exact .inl (own b h9)
  · exact .inr h9
theorem choose_lt {α : Type} [Inhabited α] {n : Nat} {p : Nat → α → Prop} (h : ∀ i, i < n → ∃ x, p i x) : ∃ f : Nat → α, ∀ i, i < n → p i (f i) := by
  have : ∀ i, ∃ x, i < n → p i x := fun i => by
    by_cases hi : i < n
    · obtain ⟨x, hx⟩ := h i hi; exact ⟨x, fun _ => hx⟩
    · exact ⟨default, fun hh => absurd hh hi⟩
  exact Classical.axiomOfChoice this
theorem DvEqB.refl : ∀ d : DV, DvEqB d d
  | .v x => rfl
  | .sl w n f => ⟨rfl, rfl, fun i _ c _ => DvEqB.refl (f i c)⟩
/-- Numbers out of rows. -/
theorem prims_cons {c : Col} {cs : List Col} {vs : List Value} (h : PrimsV (c :: cs) vs) : ∃ v vs', vs = v :: vs' ∧ PrimV c v ∧ PrimsV cs vs' := by
  cases vs with
  | nil => exact h.elim
  | cons v vs => exact ⟨v, vs, rfl, h.1, h.2⟩
theorem prims_nil {vs : List Value} (h : PrimsV [] vs) : vs = [] := by cases vs with | nil => rfl | cons => exact h.elim
/-- A nil slice in a cell, from here on told as a slice of nothing. -/
theorem imp_nilc {G : Ctx} {r : Regs} {h : Heap} {n : Nat} (k j wd : Nat) (cs : List LV) (hk : hget h k = some (.st cs)) (hj : nth cs j = some (.v (.slice none 0 0))) :
    Imp G r h n r ((k, some (.st (setL cs j (.s n wd 0 0 0)))) :: (n, some (.ar wd 0 fun _ => [])) :: h) (n + 1) := by
  intro a w ⟨ρ, φ, g, hr, hsz, hdf⟩
  have hρ : ∀ k, lt n k → (fun k => if k = n then nilL else ρ k) k = ρ k := fun k hk => by simp only [lt] at hk; simp [Nat.ne_of_lt hk]
  have hkn : k ≠ n := Nat.ne_of_lt (g.hm.lt k _ hk)
  have g1 := gm_nil g wd (fun _ => [])
  have hk1 : hget ((n, some (.ar wd 0 fun _ => [])) :: h) k = some (.st cs) := by rw [hget_cons, if_neg (Ne.symm hkn)]; exact hk
  have hE := g1.hm.at_ k _ hk1
  obtain ⟨e1, e2, e3, ⟨t, e4⟩, e5⟩ := hE
  rw [nth_eq] at hj
  refine ⟨_, _, GM.put g1 k (.st (setL cs j (.s n wd 0 0 0))) ((fun k => if k = n then [] else φ k) k) (fun _ _ => rfl) (fun _ h => h) (g1.hm.lt k _ hk1) (fun _ _ _ _ _ _ => rfl) ⟨e1, e2, e3, ⟨t, ?_⟩, fun x hx => ?_⟩ (fun b hb => g1.hm.sz k _ hk1 b hb)
    (fun k' e' hk' hne b hb hb' => g1.hm.dj k k' _ e' hk1 hk' (Ne.symm hne) rfl b hb' hb) (fun _ b hb => g1.ow k _ hk1 rfl b hb) g1.frm (Nat.le_refl _), hr.mono hρ fun k hk => Nat.lt_succ_of_lt hk, hsz, hdf⟩
  · rw [e4]
    congr 2
    rw [setL_eq, List.map_set]
    congr 1
    apply List.ext_getElem?
    intro i
    rw [List.getElem?_set]
    split
    · rename_i hij
      subst hij
      have hlt := (List.getElem?_eq_some_iff.1 hj).1
      rw [List.getElem?_map, hj]
      simp [hlt, LV.at, nilL]
    · rfl
  · rw [setL_eq] at hx
    rcases List.mem_or_eq_of_mem_set hx with hx | rfl
    · exact e5 x hx
    · exact ⟨Nat.lt_succ_self n, fun _ => rfl, fun hh => by simp [nilL] at hh⟩
theorem split_nth {α : Type} : ∀ {xs : List α} {i : Nat} {x y : α}, nth xs i = some x → xs = xs.take i ++ x :: xs.drop (i + 1) ∧ setL xs i y = xs.take i ++ y :: xs.drop (i + 1)
  | [], i, x, y, h => by cases i <;> cases h
  | z :: xs, 0, x, y, h => by simp only [nth, Option.some.injEq] at h; subst h; simp [setL]
  | z :: xs, i + 1, x, y, h => by
    obtain ⟨h1, h2⟩ := split_nth (xs := xs) (y := y) h
    refine ⟨?_, ?_⟩
    · rw [List.take_succ_cons, List.drop_succ_cons, List.cons_append, ← h1]
    · rw [List.take_succ_cons, List.drop_succ_cons, List.cons_append, ← h2]; rfl
theorem call_flat_at {G : Ctx} {f : FuncId} {xs : List AV} {h : Heap} {n : Nat} {K : SV → Heap → Nat → Prop} (i : Nat) {k : Nat} {q : List (Nat × Nat)} {wd row len d m : Nat} {d0 : DV} {g0 : Nat → Nat → DV} (g1 : Nat → List Value)
    (hx : nth xs i = some (.l (.fs k q wd row len d))) (hk : hget h k = some (.dp false d0)) (hq : dvNode d0 q = .sl wd m g0) (hm : row + len ≤ m) (hg : ∀ i, i < len → (g1 i).length = wd ∧ ∀ c, c < wd → ∃ x, (g1 i)[c]? = some x ∧ g0 (row + i) c = .v x)
    (he : CallP G f (setL xs i (.l (.s n wd 0 len 0))) ((n, some (.ro wd len g1)) :: h) (n + 1) fun x u n' => K x (u ++ [(n, some (.ro wd len g1))]) n') : CallP G f xs h n K := by
  obtain ⟨h1, h2⟩ := split_nth (y := .l (.s n wd 0 len 0)) hx
  rw [h2] at he
  rw [h1]
  exact call_flat g1 hk hq hm hg he
theorem callD_flat_at {G : Ctx} {f : FuncId} {xs : List AV} {h : Heap} {n : Nat} {K : SV → Heap → Nat → Prop} (i : Nat) {k : Nat} {q : List (Nat × Nat)} {wd row len d m : Nat} {d0 : DV} {g0 : Nat → Nat → DV} (g1 : Nat → List Value)
    (hx : nth xs i = some (.l (.fs k q wd row len d))) (hk : hget h k = some (.dp false d0)) (hq : dvNode d0 q = .sl wd m g0) (hm : row + len ≤ m) (hg : ∀ i, i < len → (g1 i).length = wd ∧ ∀ c, c < wd → ∃ x, (g1 i)[c]? = some x ∧ g0 (row + i) c = .v x)
    (he : CallD G f (setL xs i (.l (.s n wd 0 len 0))) ((n, some (.ro wd len g1)) :: h) (n + 1) fun x u n' => K x (u ++ [(n, some (.ro wd len g1))]) n') : CallD G f xs h n K := by
  rw [CallD_eq] at he ⊢
  obtain ⟨x, u, n', h1, h2⟩ := he
  refine ⟨x, _, n', call_flat_at i g1 hx hk hq hm hg ?_, h2⟩
  rw [CallP_eq] at h1 ⊢
  refine ⟨h1.1, fun G' hG' ρ φ w g hok => (h1.2 G' hG' ρ φ w g hok).mono fun e w' ⟨x', u', m', ρ', φ', e1, ⟨e2, e3, e4⟩, e5⟩ => ⟨x', u', m', ρ', φ', e1, ⟨e2, by rw [e3], e4⟩, e5⟩⟩
end Go.Sx
