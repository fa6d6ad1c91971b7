/- part -/
import Derived.Test.YtlkfolopbehikaaGreatSxQ
set_option linter.unusedSimpArgs false
set_option linter.unusedVariables false
set_option linter.unusedSectionVars false
namespace Go.Sx
open Go
def ZO9 : List Operand -> List Nat
 | [] => []
 | .tmp t :: xs => t :: ZO9 xs
 | _ :: xs => ZO9 xs
def ZKL (op : Op) : List Nat := ZO9 op.operands.toList
def lk : O -> List Nat
 | .r t => [t]
 | .c _ => []
def lkO : Option O -> List Nat
 | none => []
 | some x => lk x
def lkS : List O -> List Nat
 | [] => []
 | x :: xs => lk x ++ lkS xs
def lkP : List (Nat × Nat × O) -> List Nat
 | [] => []
 | x :: xs => lk x.2.2 ++ lkP xs
def lkM : MOp -> List Nat
 | .mk => []
 | .ln m => lk m
 | .lk m i => lk m ++ lk i
 | .dl m i => lk m ++ lk i
 | .en m i => lk m ++ lk i
 | .up m i v => lk m ++ lk i ++ lk v
 | .st m s v => lk m ++ lk s ++ lk v
def ZAN : I -> List Nat
 | .mov x => lk x
 | .pick c a b => lk c ++ lk a ++ lk b
 | .alloc _ => []
 | .box x => lk x
 | .ld x => lk x
 | .lda _ x => lk x
 | .sto _ a x => lk a ++ lk x
 | .nck x => lk x
 | .ar _ _ x y => lk x ++ lk y
 | .dv _ _ x y => lk x ++ lk y
 | .bt _ _ x y => lk x ++ lk y
 | .sh _ _ x y => lk x ++ lk y
 | .cmp _ _ x y => lk x ++ lk y
 | .eq _ _ x y => lk x ++ lk y
 | .eqa _ _ x y => lk x ++ lk y
 | .cat x y => lk x ++ lk y
 | .not x => lk x
 | .neg _ x => lk x
 | .conv _ x => lk x
 | .fa _ x => lk x
 | .ixs _ x i => lk x ++ lk i
 | .ixa _ _ x i => lk x ++ lk i
 | .ixt x i => lk x ++ lk i
 | .fld _ x => lk x
 | .flda _ _ x => lk x
 | .ext _ x => lk x
 | .bld _ parts => lkP parts
 | .bsl _ _ _ parts => lkP parts
 | .mks _ _ _ l c => lk l ++ lk c
 | .len x => lk x
 | .lens x => lk x
 | .mx _ x y => lk x ++ lk y
 | .mn _ x y => lk x ++ lk y
 | .slc _ x lo hi => lk x ++ lkO lo ++ lkO hi
 | .slt x lo hi => lk x ++ lkO lo ++ lkO hi
 | .app _ _ s x => lk s ++ lk x
 | .call _ args => lkS args
 | .callv fv args => lk fv ++ lkS args
 | .inv recv _ args => lk recv ++ lkS args
 | .mki _ x => lk x
 | .mkf _ caps => lkS caps
 | .mp _ _ op => lkM op
 | .esc op => ZKL op
def ZSQ : MOp -> Bool
 | .ln _ => true
 | .lk _ _ => true
 | _ => false
def ZCF : I -> Bool
 | .mp _ _ op => ZSQ op
 | .alloc .. => false
 | .box .. => false
 | .sto .. => false
 | .bsl .. => false
 | .mks .. => false
 | .app .. => false
 | .call .. => false
 | .callv .. => false
 | .inv .. => false
 | .esc .. => false
 | _ => true
def ZCg : I -> Bool
 | .mp .. => false
 | .alloc .. => false
 | .box .. => false
 | .ld .. => false
 | .lda .. => false
 | .sto .. => false
 | .bsl .. => false
 | .mks .. => false
 | .app .. => false
 | .call .. => false
 | .callv .. => false
 | .inv .. => false
 | .esc .. => false
 | _ => true
def ZCh : I -> Bool := fun _ => true
def restr (l : List Nat) (r : Regs) : Regs := r.filter fun p => l.any (Nat.beq p.1)
theorem ZBw (l : List Nat) : ∀ (r : Regs) (t : Nat), rget (restr l r) t = if t ∈ l then rget r t else none
 | [], t => by simp [restr, rget]
 | (t', x) :: r, t => by
  have ih := ZBw l r t
  unfold restr at ih ⊢
  rw [List.filter_cons]
  by_cases hm : t' ∈ l
  ·have : l.any (Nat.beq t') = true := List.any_eq_true.2 ⟨t', hm, Nat.beq_refl t'⟩
   simp only [this, if_true, ZBG, ih]
   by_cases e : t' = t
   ·subst e; simp [hm]
   ·simp [e]
  ·have : l.any (Nat.beq t') = false := by
    cases hq : l.any (Nat.beq t') with
    | false => rfl
    | true =>
     obtain ⟨y, h1, h2⟩ := List.any_eq_true.1 hq
     exact absurd (Nat.eq_of_beq_eq_true h2 ▸ h1) hm
   simp only [this, Bool.false_eq_true, if_false, ih, ZBG]
   by_cases e : t' = t
   ·subst e; simp [hm]
   ·simp [e]
structure CallD (G : Ctx) (f : FuncId) (xs : List AV) (h : Heap) (n : Nat) (K : SV -> Heap -> Nat -> Prop) : Prop where
 out :   ∃ x u n', CallP G f xs h n (fun x' u' m => x' = x /\ u' = u /\ m = n') /\ K x u n'
theorem ZGM (G : Ctx) (f : FuncId) (xs : List AV) (h : Heap) (n : Nat) (K : SV -> Heap -> Nat -> Prop) : CallD G f xs h n K = (∃ x u n', CallP G f xs h n (fun x' u' m => x' = x /\ u' = u /\ m = n') /\ K x u n') := propext ⟨fun h => h.out, fun h => ⟨h⟩⟩
structure InvD (G : Ctx) (recv : AV) (name : String) (xs : List AV) (h : Heap) (n : Nat) (K : SV -> Heap -> Nat -> Prop) : Prop where
 out : ∃ x u n', InvP G recv name xs h n (fun x' u' m => x' = x /\ u' = u /\ m = n') /\ K x u n'
def EscR (G : Ctx) (op : Op) (r : Regs) (h : Heap) (n : Nat) (K : SV -> Heap -> Nat -> Prop) : Prop := EscP G op (restr (ZKL op) r) h n K
structure EscD (G : Ctx) (op : Op) (r : Regs) (h : Heap) (n : Nat) (K : SV -> Heap -> Nat -> Prop) : Prop where
 out : ∃ x u n', EscR G op r h n (fun x' u' m => x' = x /\ u' = u /\ m = n') /\ K x u n'
theorem EscP.congr {G : Ctx} {op : Op} {r r' : Regs} {h : Heap} {n : Nat} {K : SV -> Heap -> Nat -> Prop} (H : ∀ t, rget r t = rget r' t) : EscP G op r h n K = EscP G op r' h n K := by
 have one : ∀ {r r' : Regs}, (∀ t, rget r t = rget r' t) -> EscP G op r h n K -> EscP G op r' h n K := fun {r r'} H he => by
  rw [ZCw] at he ⊢
  exact fun G' hP o ρ φ a w ho g hr => he G' hP o ρ φ a w ho g fun t x hx => hr t x (by rw [<- H]; exact hx)
 exact propext ⟨one H, one fun t => (H t).symm⟩
theorem EscR.congr {G : Ctx} {op : Op} {r r' : Regs} (H : ∀ t ∈ ZKL op, rget r t = rget r' t) : EscR G op r = EscR G op r' := by
 funext h n K
 unfold EscR
 refine EscP.congr fun t => ?_
 rw [ZBw, ZBw]
 split
 ·exact H t (by assumption)
 ·rfl
theorem EscD.congr {G : Ctx} {op : Op} {r r' : Regs} (H : ∀ t ∈ ZKL op, rget r t = rget r' t) : EscD G op r = EscD G op r' := by
 funext h n K
 have e := EscR.congr (G := G) H
 exact propext ⟨fun ⟨x, u, n', h1, h2⟩ => ⟨x, u, n', by rw [<- e]; exact h1, h2⟩, fun ⟨x, u, n', h1, h2⟩ => ⟨x, u, n', by rw [e]; exact h1, h2⟩⟩
theorem EscR.out {G : Ctx} {op : Op} {r : Regs} {h : Heap} {n : Nat} {K : SV -> Heap -> Nat -> Prop} (he : EscR G op r h n K) : EscP G op r h n K := by
 unfold EscR at he
 rw [ZCw] at he ⊢
 exact fun G' hP o ρ φ a w ho g hr => he G' hP o ρ φ a w ho g fun t x hx => hr t x (by
  rw [ZBw] at hx
  split at hx
  ·exact hx
  ·cases hx)
theorem ZAG {r r' : Regs} {x : O} (h : ∀ t ∈ lk x, rget r t = rget r' t) : oget r x = oget r' x := by
 cases x with
 | r t => simp only [oget, h t (by simp [lk])]
 | c x => rfl
theorem ZDs {r r' : Regs} : ∀ {xs : List O}, (∀ t ∈ lkS xs, rget r t = rget r' t) -> ogets r xs = ogets r' xs
 | [], _ => rfl
 | x :: xs, h => by
  simp only [ogets, ZAG (x := x) fun t ht => h t (by simp [lkS, ht]), ZDs (xs := xs) fun t ht => h t (by simp [lkS, ht])]
theorem ZEx {r r' : Regs} : ∀ {xs : List (Nat × Nat × O)} (acc : Option (List LV)), (∀ t ∈ lkP xs, rget r t = rget r' t) -> xs.foldl (ZF9 r) acc = xs.foldl (ZF9 r') acc
 | [], _, _ => rfl
 | x :: xs, acc, h => by
  have e : ZF9 r acc x = ZF9 r' acc x := by simp only [ZF9, ZAG (x := x.2.2) fun t ht => h t (by simp [lkP, ht])]
  simp only [List.foldl, e]
  exact ZEx _ fun t ht => h t (by simp [lkP, ht])
theorem ZHv {α β : Type} {f f' : α -> β -> β} : ∀ {xs : List α} (acc : β), (∀ x ∈ xs, ∀ b, f x b = f' x b) -> xs.foldr f acc = xs.foldr f' acc
 | [], _, _ => rfl
 | x :: xs, acc, h => by
  simp only [List.foldr]
  rw [ZHv acc fun y hy => h y (by simp [hy]), h x (by simp)]
theorem ZRo {xs : List O} {x : O} (hx : x ∈ xs) : ∀ t ∈ lk x, t ∈ lkS xs := by
 induction xs with
 | nil => cases hx
 | cons y ys ih =>
  intro t ht
  rcases List.mem_cons.1 hx with rfl | hx
  ·simp [lkS, ht]
  ·simp [lkS, ih hx t ht]
section
variable {CP : FuncId -> List AV -> Heap -> Nat -> (SV -> Heap -> Nat -> Prop) -> Prop}
variable {IP : AV -> String -> List AV -> Heap -> Nat -> (SV -> Heap -> Nat -> Prop) -> Prop}
variable {EP : Op -> Regs -> Heap -> Nat -> (SV -> Heap -> Nat -> Prop) -> Prop}
theorem ZKM (hEP : ∀ op r r', (∀ t ∈ ZKL op, rget r t = rget r' t) -> EP op r = EP op r') {i : I} (hi : ZCh i = true) {r r' : Regs} (H : ∀ t ∈ ZAN i, rget r t = rget r' t) (h : Heap) (n : Nat) (K : SV -> Heap -> Nat -> Prop) : evI CP IP EP i r h n K = evI CP IP EP i r' h n K := by
 cases i
 case mov x =>
  cases x with
  | c y => simp only [evI, oget]
  | r t =>
   have ht : rget r t = rget r' t := H t (by simp [ZAN, lk])
   simp only [evI, oget, ht]
 case pick c a b => simp only [evI, ZAG (x := c) (fun t ht => H t (by simp [ZAN, ht])), ZAG (x := a) (fun t ht => H t (by simp [ZAN, ht])), ZAG (x := b) (fun t ht => H t (by simp [ZAN, ht]))]
 case alloc z => simp only [evI]
 case box x => simp only [evI, ZAG (x := x) (fun t ht => H t (by simp [ZAN, ht]))]
 case ld x => simp only [evI, ZAG (x := x) (fun t ht => H t (by simp [ZAN, ht]))]
 case lda m x => simp only [evI, ZAG (x := x) (fun t ht => H t (by simp [ZAN, ht]))]
 case sto m a x => simp only [evI, ZAG (x := a) (fun t ht => H t (by simp [ZAN, ht])), ZAG (x := x) (fun t ht => H t (by simp [ZAN, ht]))]
 case nck x => simp only [evI, ZAG (x := x) (fun t ht => H t (by simp [ZAN, ht]))]
 case ar op k x y => simp only [evI, ZAG (x := x) (fun t ht => H t (by simp [ZAN, ht])), ZAG (x := y) (fun t ht => H t (by simp [ZAN, ht]))]
 case dv op k x y => simp only [evI, ZAG (x := x) (fun t ht => H t (by simp [ZAN, ht])), ZAG (x := y) (fun t ht => H t (by simp [ZAN, ht]))]
 case bt op k x y => simp only [evI, ZAG (x := x) (fun t ht => H t (by simp [ZAN, ht])), ZAG (x := y) (fun t ht => H t (by simp [ZAN, ht]))]
 case sh op k x y => simp only [evI, ZAG (x := x) (fun t ht => H t (by simp [ZAN, ht])), ZAG (x := y) (fun t ht => H t (by simp [ZAN, ht]))]
 case cmp op k x y => simp only [evI, ZAG (x := x) (fun t ht => H t (by simp [ZAN, ht])), ZAG (x := y) (fun t ht => H t (by simp [ZAN, ht]))]
 case eq c neg x y => simp only [evI, ZAG (x := x) (fun t ht => H t (by simp [ZAN, ht])), ZAG (x := y) (fun t ht => H t (by simp [ZAN, ht]))]
 case eqa cs neg x y => simp only [evI, ZAG (x := x) (fun t ht => H t (by simp [ZAN, ht])), ZAG (x := y) (fun t ht => H t (by simp [ZAN, ht]))]
 case cat x y => simp only [evI, ZAG (x := x) (fun t ht => H t (by simp [ZAN, ht])), ZAG (x := y) (fun t ht => H t (by simp [ZAN, ht]))]
 case not x => simp only [evI, ZAG (x := x) (fun t ht => H t (by simp [ZAN, ht]))]
 case neg k x => simp only [evI, ZAG (x := x) (fun t ht => H t (by simp [ZAN, ht]))]
 case conv k x => simp only [evI, ZAG (x := x) (fun t ht => H t (by simp [ZAN, ht]))]
 case fa off x => simp only [evI, ZAG (x := x) (fun t ht => H t (by simp [ZAN, ht]))]
 case ixs wd x i => simp only [evI, ZAG (x := x) (fun t ht => H t (by simp [ZAN, ht])), ZAG (x := i) (fun t ht => H t (by simp [ZAN, ht]))]
 case ixa sz m x i => simp only [evI, ZAG (x := x) (fun t ht => H t (by simp [ZAN, ht])), ZAG (x := i) (fun t ht => H t (by simp [ZAN, ht]))]
 case ixt x i => simp only [evI, ZAG (x := x) (fun t ht => H t (by simp [ZAN, ht])), ZAG (x := i) (fun t ht => H t (by simp [ZAN, ht]))]
 case fld off x => simp only [evI, ZAG (x := x) (fun t ht => H t (by simp [ZAN, ht]))]
 case flda off m x => simp only [evI, ZAG (x := x) (fun t ht => H t (by simp [ZAN, ht]))]
 case ext j x =>
  cases x with
  | r t => simp only [evI, H t (by simp [ZAN, lk])]
  | c x => rfl
 case bld z parts => simp only [evI, ZEx (xs := parts) _ (fun t ht => H t (by simp [ZAN, ht]))]
 case bsl wd m z parts => simp only [evI, ZEx (xs := parts) _ (fun t ht => H t (by simp [ZAN, ht]))]
 case mks wd bytes z l c => simp only [evI, ZAG (x := l) (fun t ht => H t (by simp [ZAN, ht])), ZAG (x := c) (fun t ht => H t (by simp [ZAN, ht]))]
 case len x => simp only [evI, ZAG (x := x) (fun t ht => H t (by simp [ZAN, ht]))]
 case lens x => simp only [evI, ZAG (x := x) (fun t ht => H t (by simp [ZAN, ht]))]
 case mx k x y => simp only [evI, ZAG (x := x) (fun t ht => H t (by simp [ZAN, ht])), ZAG (x := y) (fun t ht => H t (by simp [ZAN, ht]))]
 case mn k x y => simp only [evI, ZAG (x := x) (fun t ht => H t (by simp [ZAN, ht])), ZAG (x := y) (fun t ht => H t (by simp [ZAN, ht]))]
 case slc wd x lo up =>
  have h1 := ZAG (x := x) (fun t ht => H t (by simp [ZAN, ht]))
  have h2 : ∀ y, lo = some y -> oget r y = oget r' y := fun y hy => ZAG fun t ht => H t (by simp [ZAN, lkO, hy, ht])
  have h3 : ∀ y, up = some y -> oget r y = oget r' y := fun y hy => ZAG fun t ht => H t (by simp [ZAN, lkO, hy, ht])
  have h4 : ∀ y K', slcX wd r y lo up K' = slcX wd r' y lo up K' := fun y K' => by
   unfold slcX
   cases lo <;> cases up <;> (try dsimp only) <;> (try simp only [h2 _ rfl]) <;> (try simp only [h3 _ rfl])
  cases lo <;> cases up <;> simp only [evI, h1, h4] <;> (try simp only [h2 _ rfl]) <;> (try simp only [h3 _ rfl])
 case slt x lo up =>
  have h1 := ZAG (x := x) (fun t ht => H t (by simp [ZAN, ht]))
  have h2 : ∀ y, lo = some y -> oget r y = oget r' y := fun y hy => ZAG fun t ht => H t (by simp [ZAN, lkO, hy, ht])
  have h3 : ∀ y, up = some y -> oget r y = oget r' y := fun y hy => ZAG fun t ht => H t (by simp [ZAN, lkO, hy, ht])
  cases lo <;> cases up <;> simp only [evI, h1] <;> (try simp only [h2 _ rfl]) <;> (try simp only [h3 _ rfl])
 case app wd bytes s x => simp only [evI, ZAG (x := s) (fun t ht => H t (by simp [ZAN, ht])), ZAG (x := x) (fun t ht => H t (by simp [ZAN, ht]))]
 case call f args => simp only [evI, ZDs (xs := args) (fun t ht => H t (by simp [ZAN, ht]))]
 case callv fv args => simp only [evI, ZAG (x := fv) (fun t ht => H t (by simp [ZAN, ht])), ZDs (xs := args) (fun t ht => H t (by simp [ZAN, ht]))]
 case inv recv name args => simp only [evI, ZAG (x := recv) (fun t ht => H t (by simp [ZAN, ht])), ZDs (xs := args) (fun t ht => H t (by simp [ZAN, ht]))]
 case mki t x => simp only [evI, ZAG (x := x) (fun t ht => H t (by simp [ZAN, ht]))]
 case mkf f caps =>
  simp only [evI]
  rw [ZHv]
  intro o ho acc
  simp only [ZAG (x := o) fun t ht => H t (ZRo ho t ht)]
 case mp q qe op =>
  cases op <;> simp only [evI, evM]
  case lk m i => simp only [ZAG (x := m) (fun t ht => H t (by simp [ZAN, lkM, ht])), ZAG (x := i) (fun t ht => H t (by simp [ZAN, lkM, ht]))]
  case up m i v => simp only [ZAG (x := m) (fun t ht => H t (by simp [ZAN, lkM, ht])), ZAG (x := i) (fun t ht => H t (by simp [ZAN, lkM, ht])), ZAG (x := v) (fun t ht => H t (by simp [ZAN, lkM, ht]))]
  case dl m i => simp only [ZAG (x := m) (fun t ht => H t (by simp [ZAN, lkM, ht])), ZAG (x := i) (fun t ht => H t (by simp [ZAN, lkM, ht]))]
  case ln m => simp only [ZAG (x := m) (fun t ht => H t (by simp [ZAN, lkM, ht]))]
  case en m i => simp only [ZAG (x := m) (fun t ht => H t (by simp [ZAN, lkM, ht])), ZAG (x := i) (fun t ht => H t (by simp [ZAN, lkM, ht]))]
  case st m s v => simp only [ZAG (x := m) (fun t ht => H t (by simp [ZAN, lkM, ht])), ZAG (x := s) (fun t ht => H t (by simp [ZAN, lkM, ht])), ZAG (x := v) (fun t ht => H t (by simp [ZAN, lkM, ht]))]
 case esc op => simp only [evI, hEP op r r' (fun t ht => H t (by simp [ZAN, ht]))]
end
theorem ZFZ {kf kt : Prop} {b : Bool} (h : @Bool.rec (fun _ => Prop) kf kt b) : (b = true /\ kt) \/ (b = false /\ kf) := by cases b; exact .inr ⟨rfl, h⟩; exact .inl ⟨rfl, h⟩
theorem ZLX {h : Heap} {k wd row col : Nat} {K : LV -> Prop} (he : ldAt h k wd row col K) : ∃ x, K x /\ ldAt h k wd row col (fun y => y = x) := by
 unfold ldAt at he ⊢
 split at he
 ·split at he
  ·exact ⟨_, he, by simp only [*]⟩
  ·exact he.elim
 ·split at he
  ·obtain ⟨h1, he⟩ := he
   split at he
   ·rw [ZAj] at he
    exact ⟨_, he, by simp only [*, ZAj, and_self]⟩
   ·exact he.elim
  ·exact he.elim
 ·split at he
  ·obtain ⟨h1, he⟩ := he
   split at he
   ·rw [ZAj] at he
    exact ⟨_, he, by simp only [*, ZAj, and_self]⟩
   ·exact he.elim
  ·exact he.elim
 ·split at he
  ·obtain ⟨⟨rfl, h1⟩, he⟩ := he
   exact ⟨_, he, by simp only [*, and_self]⟩
  ·exact he.elim
 ·exact he.elim
theorem ZMH {h : Heap} {k wd row col m : Nat} {K : List LV -> Prop} (he : ZEY h k wd row col m K) : ∃ x, K x /\ ZEY h k wd row col m (fun y => y = x) := by
 unfold ZEY at he ⊢
 simp only [ZBz] at he ⊢
 split at he
 ·split at he
  ·exact ⟨_, he, by simp only [*]⟩
  ·exact he.elim
 ·split at he
  ·obtain ⟨h1, he⟩ := he
   split at he
   ·rw [ZB2] at he
    exact ⟨_, he, by simp only [*, ZB2, and_self]⟩
   ·exact he.elim
  ·exact he.elim
 ·split at he
  ·obtain ⟨h1, he⟩ := he
   split at he
   ·rw [ZB2] at he
    exact ⟨_, he, by simp only [*, ZB2, and_self]⟩
   ·exact he.elim
  ·exact he.elim
 ·exact he.elim
theorem ZRp {h : Heap} {k wd row col m : Nat} {x : AV} {K : Heap -> Prop} (he : stAt h k wd row col m x K) : ∃ u, K u /\ stAt h k wd row col m x (fun y => y = u) := by
 unfold stAt at he ⊢
 simp only [ZBz] at he ⊢
 split at he
 ·split at he
  ·split at he
   ·exact ⟨_, he, by simp only [*]⟩
   ·exact he.elim
  ·split at he
   ·obtain ⟨h1, he⟩ := he
    exact ⟨_, he, by simp only [*, and_self]⟩
   ·exact he.elim
  ·split at he
   ·split at he
    ·obtain ⟨⟨rfl, h1⟩, he⟩ := he
     rw [ZGk] at he
     exact ⟨_, he, by simp only [*, ZGk, and_self]⟩
    ·exact he.elim
   ·exact he.elim
  ·exact he.elim
 ·exact he.elim
theorem ZRq {h : Heap} {k wd row col : Nat} {K K' : LV -> Prop} (hk : ∀ x, K x -> K' x) (he : ldAt h k wd row col K) : ldAt h k wd row col K' := by
 obtain ⟨x, h1, h2⟩ := ZLX he
 unfold ldAt at he ⊢
 split at he
 ·split at he
  ·exact hk _ he
  ·exact he.elim
 ·split at he
  ·refine ⟨he.1, ?_⟩
   have he := he.2
   split at he
   ·rw [ZAj] at he ⊢; exact hk _ he
   ·exact he.elim
  ·exact he.elim
 ·split at he
  ·refine ⟨he.1, ?_⟩
   have he := he.2
   split at he
   ·rw [ZAj] at he ⊢; exact hk _ he
   ·exact he.elim
  ·exact he.elim
 ·split at he
  ·exact ⟨he.1, hk _ he.2⟩
  ·exact he.elim
 ·exact he.elim
theorem ZQF {h : Heap} {k wd row col m : Nat} {K K' : List LV -> Prop} (hk : ∀ x, K x -> K' x) (he : ZEY h k wd row col m K) : ZEY h k wd row col m K' := by
 unfold ZEY at he ⊢
 simp only [ZBz] at he ⊢
 split at he
 ·split at he
  ·exact hk _ he
  ·exact he.elim
 ·split at he
  ·refine ⟨he.1, ?_⟩
   have he := he.2
   split at he
   ·rw [ZB2] at he ⊢; exact hk _ he
   ·exact he.elim
  ·exact he.elim
 ·split at he
  ·refine ⟨he.1, ?_⟩
   have he := he.2
   split at he
   ·rw [ZB2] at he ⊢; exact hk _ he
   ·exact he.elim
  ·exact he.elim
 ·exact he.elim
theorem ZRr {h : Heap} {k wd row col m : Nat} {x : AV} {K K' : Heap -> Prop} (hk : ∀ x, K x -> K' x) (he : stAt h k wd row col m x K) : stAt h k wd row col m x K' := by
 unfold stAt at he ⊢
 simp only [ZBz] at he ⊢
 split at he
 ·split at he
  ·split at he
   ·exact hk _ he
   ·exact he.elim
  ·split at he
   ·exact ⟨he.1, hk _ he.2⟩
   ·exact he.elim
  ·split at he
   ·split at he
    ·rw [ZGk] at he ⊢
     exact ⟨he.1, hk _ he.2⟩
    ·exact he.elim
   ·exact he.elim
  ·exact he.elim
 ·exact he.elim
theorem ZMI {h : Heap} {y : Option AV} {K : LV -> Prop} (he : ldX h y K) : ∃ v, K v /\ ∀ K' : LV -> Prop, K' v -> ldX h y K' := by
 unfold ldX ldDp at *
 split at he
 ·split at he
  ·split at he
   ·split at he
    ·obtain ⟨hrow, he⟩ := he
     split at he
     ·rw [ZAj] at he
      exact ⟨_, he, fun K' hk => by simp only [*, ZAj, true_and]⟩
     ·exact ⟨_, he, fun K' hk => by simp only [*, true_and]⟩
    ·exact he.elim
   ·exact he.elim
  ·exact he.elim
 ·split at he
  ·rw [ZAj] at he
   exact ⟨_, he, fun K' hk => by simp only [*, ZAj]⟩
  ·exact he.elim
 ·exact he.elim
theorem ZEy {k : Nat} {q : List (Nat × Nat)} {row : Nat} {f : Nat -> Nat -> DV} : ∀ (m col : Nat) {K' : List LV -> Prop}, K' ((List.range m).map fun j => dpLV k q row f (col + j)) -> ZEq k q row f col m K'
 | 0, col, K', he => he
 | m + 1, col, K', he => by
  simp only [ZEq]
  rw [List.range_succ_eq_map] at he
  simp only [List.map_cons, List.map_map, Nat.add_zero] at he
  have e : ((fun j => dpLV k q row f (col + j)) ∘ Nat.succ) = fun j => dpLV k q row f (col + 1 + j) := by
   funext j; simp only [Function.comp]; congr 1; omega
  rw [e] at he
  split
  ·rename_i x hx
   rw [ZAj]
   exact ZEy m (col + 1) (by simpa only [dpLV, hx] using he)
  ·rename_i wd2 n2 f2 hx
   exact ZEy m (col + 1) (by simpa only [dpLV, hx] using he)
theorem ZKN {h : Heap} {y : Option AV} {m : Nat} {K : List LV -> Prop} (he : ldsX h y m K) : ∃ v, K v /\ ∀ K' : List LV -> Prop, K' v -> ldsX h y m K' := by
 unfold ldsX ZP1 at *
 split at he
 ·split at he
  ·split at he
   ·split at he
    ·obtain ⟨hrow, he⟩ := he
     exact ⟨_, ZDD _ _ he, fun K' hk => by simp only [*, true_and]; exact ZEy _ _ hk⟩
    ·exact he.elim
   ·exact he.elim
  ·exact he.elim
 ·split at he
  ·rw [ZBz] at he
   exact ⟨_, he, fun K' hk => by simp only [*, ZBz]⟩
  ·exact he.elim
 ·exact he.elim
theorem ZFa {off : Nat} {y : Option AV} {K : LV -> Prop} (he : faX off y K) : ∃ v, K v /\ ∀ K' : LV -> Prop, K' v -> faX off y K' := by
 unfold faX at *
 split at he
 ·exact ⟨_, he, fun K' hk => hk⟩
 ·exact he.elim
theorem ZG3 {wd : Nat} {y z : Option AV} {K : LV -> Prop} (he : ixsX wd y z K) : ∃ v, K v /\ ∀ K' : LV -> Prop, K' v -> ixsX wd y z K' := by
 unfold ixsX at *
 split at he
 ·split at he
  ·split at he
   ·rename_i hb
    obtain ⟨hc, he⟩ := he
    exact ⟨_, he, fun K' hk => ⟨hc, hk⟩⟩
   ·exact he.elim
  ·exact he.elim
 ·split at he
  ·obtain ⟨hc, he⟩ := he
   exact ⟨_, he, fun K' hk => ⟨hc, hk⟩⟩
  ·exact he.elim
 ·exact he.elim
theorem ZG4 {sz m : Nat} {y z : Option AV} {K : LV -> Prop} (he : ixaX sz m y z K) : ∃ v, K v /\ ∀ K' : LV -> Prop, K' v -> ixaX sz m y z K' := by
 unfold ixaX at *
 split at he
 ·split at he
  ·obtain ⟨hc, he⟩ := he
   exact ⟨_, he, fun K' hk => ⟨hc, hk⟩⟩
  ·exact he.elim
 ·exact he.elim
theorem ZG5 {y : Option AV} {K : Int -> Prop} (he : lenX y K) : ∃ v, K v /\ ∀ K' : Int -> Prop, K' v -> lenX y K' := by
 unfold lenX at *
 split at he
 ·exact ⟨_, he, fun K' hk => hk⟩
 ·exact he.elim
theorem ZG6 {wd : Nat} {r : Regs} {y : Option AV} {lo up : Option O} {K : LV -> Prop} (he : slcX wd r y lo up K) : ∃ v, K v /\ ∀ K' : LV -> Prop, K' v -> slcX wd r y lo up K' := by
 unfold slcX at *
 (repeat' split at he) <;> first | exact he.elim | exact ⟨_, he, fun K' hk => by simp only [*]⟩ | exact ⟨_, he.2, fun K' hk => by have := he.1; simp only [*, and_self, true_and]⟩ | skip
theorem ZEO {h : Heap} : ∀ (cs : List LV) {K : List DV -> Heap -> Prop}, ZIp h cs K -> ∃ ds dead, K ds dead /\ ∀ K' : List DV -> Heap -> Prop, K' ds dead -> ZIp h cs K'
 | [], K, he => ⟨[], [], he, fun K' hk => hk⟩
 | x :: cs, K, he => by
  unfold ZIp at he ⊢
  split at he
  ·rename_i heq; cases heq
  ·rename_i v xs heq
   cases heq
   obtain ⟨ds, dead, h1, h2⟩ := ZEO cs he
   exact ⟨_, _, h1, fun K' hk => h2 _ hk⟩
  ·rename_i k wd len xs heq
   cases heq
   split at he
   ·rename_i hk0
    split at he
    ·rename_i hb
     obtain ⟨hlen, he⟩ := he
     obtain ⟨ds, dead, h1, h2⟩ := ZEO cs he
     exact ⟨_, _, h1, fun K' hk => by simp only [hk0, hb]; exact ⟨hlen, h2 _ hk⟩⟩
    ·exact he.elim
   ·exact he.elim
  ·rename_i k wd len xs heq
   cases heq
   split at he
   ·rename_i hk0
    split at he
    ·rename_i hb
     obtain ⟨hlen, he⟩ := he
     obtain ⟨ds, dead, h1, h2⟩ := ZEO cs he
     exact ⟨_, _, h1, fun K' hk => by simp only [hk0, hb]; exact ⟨hlen, h2 _ hk⟩⟩
    ·exact he.elim
   ·exact he.elim
  ·exact he.elim
theorem ZPA {hp : Heap} {wd m nx : Nat} {cs : List LV} {o : Option (List Value)} {a b : Bool} {K : SV -> Heap -> Nat -> Prop} (he : bslX hp wd m nx cs o a b K) : ∃ x u n', K x u n' /\ ∀ K' : SV -> Heap -> Nat -> Prop, K' x u n' -> bslX hp wd m nx cs o a b K' := by
 unfold bslX at *
 split at he
 ·split at he
  ·split at he
   ·obtain ⟨ds, dead, h1, h2⟩ := ZEO cs he
    exact ⟨_, _, _, h1, fun K' hk => h2 _ hk⟩
   ·exact he.elim
  ·exact he.elim
 ·exact he.elim
theorem ZPB {hp : Heap} {wd bytes nx : Nat} {y : Option AV} {k2 : Nat} {q : List (Nat × Nat)} {wd2 row2 len2 : Nat} {K : SV -> Heap -> Nat -> Prop} (he : appF hp wd bytes nx y k2 q wd2 row2 len2 K) : ∃ x u n', K x u n' /\ ∀ K' : SV -> Heap -> Nat -> Prop, K' x u n' -> appF hp wd bytes nx y k2 q wd2 row2 len2 K' := by
 unfold appF at *
 (repeat' split at he) <;> first | exact he.elim | (obtain ⟨hc, he⟩ := he; refine ⟨_, _, _, he, fun K' hk => ?_⟩; clear he; revert hc hk; (try simp only [*]); exact fun hc hk => ⟨hc, hk⟩)
theorem ZPC {hp : Heap} {wd bytes nx : Nat} {y z : Option AV} {K : SV -> Heap -> Nat -> Prop} (he : appX hp wd bytes nx y z K) : ∃ x u n', K x u n' /\ ∀ K' : SV -> Heap -> Nat -> Prop, K' x u n' -> appX hp wd bytes nx y z K' := by
 unfold appX at *
 (repeat' split at he) <;> first | exact he.elim | exact ZPB he | (obtain ⟨hc, he⟩ := he; refine ⟨_, _, _, he, fun K' hk => ?_⟩; clear he; revert hc hk; (try simp only [*]); exact fun hc hk => ⟨hc, hk⟩)
theorem rA0 {p : Prop} (h : p := by
 (repeat' split at he) <;> first | exact he.elim | exact ⟨_, _, _, he, by simp only [*, if_true, and_self]⟩ | (refine ⟨_, _, _, he.2, ?_⟩; have hc := he.1; clear he; revert hc; simp only [*, if_true, and_self, and_true] <;> exact fun hc => hc) | exact ⟨_, _, _, he, by simp only [*, if_true, and_self]⟩ | (refine ⟨_, _, _, he.2, ?_⟩; have hc := he.1; clear he; revert hc; simp only [*, if_true, and_self, and_true] <;> exact fun hc => hc)) : p := h
theorem rA1 {p : Prop} (h : p := by
 (repeat' split at he) <;> first | exact he.elim | (rename_i hq; rw [ZAk] at he; refine ⟨_, _, _, he, ?_⟩; rw [hq]; rw [ZAk]; exact ⟨rfl, rfl, rfl⟩) | (simp only [*, if_true]; first | (simp only [ZAk] at he ⊢; exact ⟨_, _, _, he, rfl, rfl, rfl⟩) | (simp only [ZAt] at he ⊢; exact ⟨_, _, _, he.2, he.1, rfl, rfl, rfl⟩) | (simp only [ZAw] at he ⊢; exact ⟨_, _, _, he.2, he.1, rfl, rfl, rfl⟩) | (simp only [ZAu] at he ⊢; exact ⟨_, _, _, he.2, he.1, rfl, rfl, rfl⟩) | (simp only [ZAx] at he ⊢; exact ⟨_, _, _, he.2, he.1, rfl, rfl, rfl⟩))) : p := h
theorem rA2 {p : Prop} (h : p := by
 (repeat' split at he) <;> first | exact he.elim | exact ⟨he.2.1.symm, he.2.2.symm⟩ | exact ⟨he.2.2.1.symm, he.2.2.2.symm⟩ | (rw [ZAk] at he; exact ⟨he.2.1.symm, he.2.2.symm⟩) | (rw [ZAt] at he; exact ⟨he.2.2.1.symm, he.2.2.2.symm⟩) | (rw [ZAw] at he; exact ⟨he.2.2.1.symm, he.2.2.2.symm⟩) | (rw [ZAu] at he; exact ⟨he.2.2.1.symm, he.2.2.2.symm⟩) | (rw [ZAx] at he; exact ⟨he.2.2.1.symm, he.2.2.2.symm⟩)) : p := h
theorem rA3 {p : Prop} (h : p := by
 (repeat' split at he) <;> first | exact he.elim | (obtain ⟨rfl, _⟩ := he; exact hk) | (obtain ⟨hc, rfl, _⟩ := he; exact ⟨hc, hk⟩) | (simp only [ZAk] at he ⊢; (obtain ⟨rfl, _⟩ := he; exact hk)) | (simp only [ZAt] at he ⊢; (obtain ⟨hc, rfl, _⟩ := he; exact ⟨hc, hk⟩)) | (simp only [ZAw] at he ⊢; (obtain ⟨hc, rfl, _⟩ := he; exact ⟨hc, hk⟩)) | (simp only [ZAu] at he ⊢; (obtain ⟨hc, rfl, _⟩ := he; exact ⟨hc, hk⟩)) | (simp only [ZAx] at he ⊢; (obtain ⟨hc, rfl, _⟩ := he; exact ⟨hc, hk⟩)) | (obtain ⟨rfl, _⟩ := he; subst_vars; simpa using hk) | (simp only [*, if_true]; first | (obtain ⟨rfl, _⟩ := he; exact hk) | (obtain ⟨hc, rfl, _⟩ := he; exact ⟨hc, hk⟩) | (simp only [ZAk] at he ⊢; (obtain ⟨rfl, _⟩ := he; exact hk)) | (simp only [ZAt] at he ⊢; (obtain ⟨hc, rfl, _⟩ := he; exact ⟨hc, hk⟩)) | (simp only [ZAw] at he ⊢; (obtain ⟨hc, rfl, _⟩ := he; exact ⟨hc, hk⟩)) | (simp only [ZAu] at he ⊢; (obtain ⟨hc, rfl, _⟩ := he; exact ⟨hc, hk⟩)) | (simp only [ZAx] at he ⊢; (obtain ⟨hc, rfl, _⟩ := he; exact ⟨hc, hk⟩)))) : p := h
theorem rA4 {p : Prop} (h : p := by
 (repeat' split at he) <;> first | exact he.elim | (obtain ⟨rfl, _⟩ := he; exact hk) | (obtain ⟨hc, rfl, _⟩ := he; exact ⟨hc, hk⟩) | (simp only [ZAk] at he ⊢; (obtain ⟨rfl, _⟩ := he; exact hk)) | (simp only [ZAt] at he ⊢; (obtain ⟨hc, rfl, _⟩ := he; exact ⟨hc, hk⟩)) | (simp only [ZAw] at he ⊢; (obtain ⟨hc, rfl, _⟩ := he; exact ⟨hc, hk⟩)) | (simp only [ZAu] at he ⊢; (obtain ⟨hc, rfl, _⟩ := he; exact ⟨hc, hk⟩)) | (simp only [ZAx] at he ⊢; (obtain ⟨hc, rfl, _⟩ := he; exact ⟨hc, hk⟩)) | (obtain ⟨rfl, _⟩ := he; subst_vars; simpa using hk) | (simp only [*, if_true]; first | (obtain ⟨rfl, _⟩ := he; exact hk) | (obtain ⟨hc, rfl, _⟩ := he; exact ⟨hc, hk⟩) | (simp only [ZAk] at he ⊢; (obtain ⟨rfl, _⟩ := he; exact hk)) | (simp only [ZAt] at he ⊢; (obtain ⟨hc, rfl, _⟩ := he; exact ⟨hc, hk⟩)) | (simp only [ZAw] at he ⊢; (obtain ⟨hc, rfl, _⟩ := he; exact ⟨hc, hk⟩)) | (simp only [ZAu] at he ⊢; (obtain ⟨hc, rfl, _⟩ := he; exact ⟨hc, hk⟩)) | (simp only [ZAx] at he ⊢; (obtain ⟨hc, rfl, _⟩ := he; exact ⟨hc, hk⟩))) | (obtain ⟨v, ⟨rfl, _, _⟩, h2⟩ := ZFa he; first | exact h2 _ hk | (split <;> first | (exfalso; simp_all; done) | exact h2 _ hk))) : p := h
theorem ZKO {G : Ctx} {i : I} (hi : ZCh i = true) {r : Regs} {h : Heap} {n : Nat} {K : SV -> Heap -> Nat -> Prop} (he : evI (CallD G) (InvD G) (EscD G) i r h n K) :
  ∃ x u n', K x u n' /\ evI (CallP G) (InvP G) (EscR G) i r h n (fun x' u' m => x' = x /\ u' = u /\ m = n') := by
 cases i
 case mov x =>
  simp only [evI] at he ⊢
  exact rA0
 case pick c a b =>
  simp only [evI] at he ⊢
  split at he
  ·rcases ZFZ he with ⟨rfl, hb⟩ | ⟨rfl, hb⟩ <;> clear he <;> split at hb <;> first | exact hb.elim | exact ⟨_, _, _, hb, by simp only [*, and_self]⟩
  ·exact he.elim
 case alloc z =>
  simp only [evI] at he ⊢
  exact ⟨_, _, _, he, rfl, rfl, rfl⟩
 case box x =>
  simp only [evI] at he ⊢
  exact rA0
 case ld x =>
  simp only [evI] at he ⊢
  split at he
  ·obtain ⟨x, h1, h2⟩ := ZLX he
   refine ⟨_, _, _, h1, ?_⟩
   simp only [*]
   exact ZRq (fun y hy => by subst hy; simp) h2
  ·obtain ⟨v, h1, h2⟩ := ZMI he; refine ⟨_, _, _, h1, ?_⟩; first | exact h2 _ ⟨rfl, rfl, rfl⟩ | (split <;> first | (exfalso; simp_all; done) | exact h2 _ ⟨rfl, rfl, rfl⟩)
 case lda m x =>
  simp only [evI] at he ⊢
  split at he
  ·obtain ⟨x, h1, h2⟩ := ZMH he
   refine ⟨_, _, _, h1, ?_⟩
   simp only [*]
   exact ZQF (fun y hy => by subst hy; simp) h2
  ·obtain ⟨v, h1, h2⟩ := ZKN he; refine ⟨_, _, _, h1, ?_⟩; first | exact h2 _ ⟨rfl, rfl, rfl⟩ | (split <;> first | (exfalso; simp_all; done) | exact h2 _ ⟨rfl, rfl, rfl⟩)
 case sto m a x =>
  simp only [evI] at he ⊢
  split at he
  ·obtain ⟨x, h1, h2⟩ := ZRp he
   refine ⟨_, _, _, h1, ?_⟩
   simp only [*]
   exact ZRr (fun y hy => by subst hy; simp) h2
  ·exact he.elim
 case nck x =>
  simp only [evI] at he ⊢
  (repeat' split at he) <;> first | exact he.elim | exact ⟨_, _, _, he, by simp only [*, if_true, and_self]⟩ | (refine ⟨_, _, _, he.2, ?_⟩; have hc := he.1; clear he; revert hc; simp only [*, if_true, and_self, and_true] <;> exact fun hc => hc) | exact ⟨_, _, _, he, by simp only [*, if_true, and_self]⟩ | (refine ⟨_, _, _, he.2, ?_⟩; have hc := he.1; clear he; revert hc; simp only [*, if_true, and_self, and_true] <;> exact fun hc => hc) | (obtain ⟨v, h1, h2⟩ := ZFa he; refine ⟨_, _, _, h1, ?_⟩; first | exact h2 _ ⟨rfl, rfl, rfl⟩ | (split <;> first | (exfalso; simp_all; done) | exact h2 _ ⟨rfl, rfl, rfl⟩))
 case ar op k x y =>
  simp only [evI] at he ⊢
  exact rA1
 case dv op k x y =>
  simp only [evI] at he ⊢
  exact rA1
 case bt op k x y =>
  simp only [evI] at he ⊢
  exact rA0
 case sh op k x y =>
  simp only [evI] at he ⊢
  exact rA1
 case cmp op k x y =>
  simp only [evI] at he ⊢
  exact rA0
 case eq c neg x y =>
  simp only [evI] at he ⊢
  exact rA0
 case eqa cs neg x y =>
  simp only [evI] at he ⊢
  exact rA0
 case cat x y =>
  simp only [evI] at he ⊢
  exact rA0
 case not x =>
  simp only [evI] at he ⊢
  exact rA0
 case neg k x =>
  simp only [evI] at he ⊢
  exact rA1
 case conv k x =>
  simp only [evI] at he ⊢
  split at he
  ·rename_i hq
   rw [ZAk] at he
   refine ⟨_, _, _, he, ?_⟩
   rw [ZAk]
   simp
  ·exact he.elim
 case fa off x =>
  simp only [evI] at he ⊢
  (repeat' split at he) <;> first | exact he.elim | exact ⟨_, _, _, he, by simp only [*, if_true, and_self]⟩ | (refine ⟨_, _, _, he.2, ?_⟩; have hc := he.1; clear he; revert hc; simp only [*, if_true, and_self, and_true] <;> exact fun hc => hc) | exact ⟨_, _, _, he, by simp only [*, if_true, and_self]⟩ | (refine ⟨_, _, _, he.2, ?_⟩; have hc := he.1; clear he; revert hc; simp only [*, if_true, and_self, and_true] <;> exact fun hc => hc) | (obtain ⟨v, h1, h2⟩ := ZFa he; refine ⟨_, _, _, h1, ?_⟩; first | exact h2 _ ⟨rfl, rfl, rfl⟩ | (split <;> first | (exfalso; simp_all; done) | exact h2 _ ⟨rfl, rfl, rfl⟩))
 case ixs wd x i =>
  simp only [evI] at he ⊢
  (repeat' split at he) <;> first | exact he.elim | exact ⟨_, _, _, he, by simp only [*, if_true, and_self]⟩ | (refine ⟨_, _, _, he.2, ?_⟩; have hc := he.1; clear he; revert hc; simp only [*, if_true, and_self, and_true] <;> exact fun hc => hc) | exact ⟨_, _, _, he, by simp only [*, if_true, and_self]⟩ | (refine ⟨_, _, _, he.2, ?_⟩; have hc := he.1; clear he; revert hc; simp only [*, if_true, and_self, and_true] <;> exact fun hc => hc) | (obtain ⟨v, h1, h2⟩ := ZG3 he; refine ⟨_, _, _, h1, ?_⟩; first | exact h2 _ ⟨rfl, rfl, rfl⟩ | (split <;> first | (exfalso; simp_all; done) | exact h2 _ ⟨rfl, rfl, rfl⟩))
 case ixa sz m x i =>
  simp only [evI] at he ⊢
  (repeat' split at he) <;> first | exact he.elim | exact ⟨_, _, _, he, by simp only [*, if_true, and_self]⟩ | (refine ⟨_, _, _, he.2, ?_⟩; have hc := he.1; clear he; revert hc; simp only [*, if_true, and_self, and_true] <;> exact fun hc => hc) | exact ⟨_, _, _, he, by simp only [*, if_true, and_self]⟩ | (refine ⟨_, _, _, he.2, ?_⟩; have hc := he.1; clear he; revert hc; simp only [*, if_true, and_self, and_true] <;> exact fun hc => hc) | (obtain ⟨v, h1, h2⟩ := ZG4 he; refine ⟨_, _, _, h1, ?_⟩; first | exact h2 _ ⟨rfl, rfl, rfl⟩ | (split <;> first | (exfalso; simp_all; done) | exact h2 _ ⟨rfl, rfl, rfl⟩))
 case ixt x i =>
  simp only [evI] at he ⊢
  split at he
  ·obtain ⟨h1, h2⟩ := he
   exact ⟨_, _, _, h2, by simp only [*, and_self]⟩
  ·exact he.elim
 case fld off x =>
  simp only [evI] at he ⊢
  exact rA0
 case flda off m x =>
  simp only [evI] at he ⊢
  exact rA0
 case ext j x =>
  simp only [evI] at he ⊢
  exact rA0
 case bld z parts =>
  simp only [evI, ZBz] at he ⊢
  exact rA0
 case bsl wd m z parts =>
  simp only [evI] at he ⊢
  (repeat' split at he) <;> first | exact he.elim | exact ⟨_, _, _, he, by simp only [*, if_true, and_self]⟩ | (refine ⟨_, _, _, he.2, ?_⟩; have hc := he.1; clear he; revert hc; simp only [*, if_true, and_self, and_true] <;> exact fun hc => hc) | exact ⟨_, _, _, he, by simp only [*, if_true, and_self]⟩ | (refine ⟨_, _, _, he.2, ?_⟩; have hc := he.1; clear he; revert hc; simp only [*, if_true, and_self, and_true] <;> exact fun hc => hc) | (obtain ⟨x, u, n', h1, h2⟩ := ZPA he; refine ⟨_, _, _, h1, ?_⟩; (try simp only [*]); first | exact h2 _ ⟨rfl, rfl, rfl⟩ | (split <;> first | (exfalso; simp_all; done) | exact h2 _ ⟨rfl, rfl, rfl⟩))
 case mks wd bytes z l c =>
  simp only [evI] at he ⊢
  exact rA0
 case len x =>
  simp only [evI] at he ⊢
  (repeat' split at he) <;> first | exact he.elim | exact ⟨_, _, _, he, by simp only [*, if_true, and_self]⟩ | (refine ⟨_, _, _, he.2, ?_⟩; have hc := he.1; clear he; revert hc; simp only [*, if_true, and_self, and_true] <;> exact fun hc => hc) | exact ⟨_, _, _, he, by simp only [*, if_true, and_self]⟩ | (refine ⟨_, _, _, he.2, ?_⟩; have hc := he.1; clear he; revert hc; simp only [*, if_true, and_self, and_true] <;> exact fun hc => hc) | (obtain ⟨v, h1, h2⟩ := ZG5 he; refine ⟨_, _, _, h1, ?_⟩; first | exact h2 _ ⟨rfl, rfl, rfl⟩ | (split <;> first | (exfalso; simp_all; done) | exact h2 _ ⟨rfl, rfl, rfl⟩))
 case lens x =>
  simp only [evI] at he ⊢
  exact rA0
 case mx k x y =>
  simp only [evI] at he ⊢
  exact rA0
 case mn k x y =>
  simp only [evI] at he ⊢
  exact rA0
 case slc wd x lo up =>
  cases lo <;> cases up <;> simp only [evI] at he ⊢ <;> (repeat' split at he) <;> first | exact he.elim | exact ⟨_, _, _, he, by simp only [*, and_self]⟩ | exact ⟨_, _, _, he.2, by simp only [*, and_self]⟩ | (obtain ⟨v, h1, h2⟩ := ZG6 he; refine ⟨_, _, _, h1, ?_⟩; first | exact h2 _ ⟨rfl, rfl, rfl⟩ | (split <;> first | (exfalso; simp_all; done) | exact h2 _ ⟨rfl, rfl, rfl⟩))
 case slt x lo up =>
  cases lo <;> cases up <;> simp only [evI] at he ⊢ <;> (repeat' split at he) <;> first | exact he.elim | exact ⟨_, _, _, he, by simp only [*, and_self]⟩ | exact ⟨_, _, _, he.2, by simp only [*, and_self]⟩
 case app wd bytes s x =>
  simp only [evI] at he ⊢
  (repeat' split at he) <;> first | exact he.elim | exact ⟨_, _, _, he, by simp only [*, if_true, and_self]⟩ | (refine ⟨_, _, _, he.2, ?_⟩; have hc := he.1; clear he; revert hc; simp only [*, if_true, and_self, and_true] <;> exact fun hc => hc) | exact ⟨_, _, _, he, by simp only [*, if_true, and_self]⟩ | (refine ⟨_, _, _, he.2, ?_⟩; have hc := he.1; clear he; revert hc; simp only [*, if_true, and_self, and_true] <;> exact fun hc => hc) | (obtain ⟨x, u, n', h1, h2⟩ := ZPC he; refine ⟨_, _, _, h1, ?_⟩; first | exact h2 _ ⟨rfl, rfl, rfl⟩ | (split <;> first | (exfalso; simp_all; done) | exact h2 _ ⟨rfl, rfl, rfl⟩))
 case call f args =>
  simp only [evI] at he ⊢
  split at he
  ·simp only [ZFP, ZCL, ZBP] at he ⊢
   rw [ZGM] at he
   obtain ⟨x, u, n', h1, h2⟩ := he
   refine ⟨x, u, n', h2, ?_⟩
   simp_all only
  ·exact he.elim
 case callv fv args =>
  simp only [evI] at he ⊢
  split at he
  ·simp only [ZFP, ZCL, ZBP] at he ⊢
   rw [ZGM] at he
   obtain ⟨x, u, n', h1, h2⟩ := he
   refine ⟨x, u, n', h2, ?_⟩
   simp_all only
  ·simp only [ZFP, ZCL, ZBP] at he ⊢
   rw [ZGM] at he
   obtain ⟨x, u, n', h1, h2⟩ := he
   refine ⟨x, u, n', h2, ?_⟩
   simp_all only
  ·exact he.elim
 case inv recv name args =>
  simp only [evI] at he ⊢
  split at he
  ·simp only [ZFP, ZCL, ZBP] at he ⊢
   obtain ⟨x, u, n', h1, h2⟩ := he
   refine ⟨x, u, n', h2, ?_⟩
   simp_all only
  ·exact he.elim
 case mki t x =>
  simp only [evI] at he ⊢
  exact rA0
 case mkf f caps =>
  simp only [evI] at he ⊢
  exact rA0
 case mp q qe op =>
  cases op <;> simp only [evI, evM] at he ⊢ <;> (repeat' first | (obtain ⟨nn, _, _, hK, hq⟩ := ZEM he; refine ⟨_, _, _, hK, ?_⟩; clear he; simp only [*, if_true]; exact hq _ (by first | exact ⟨rfl, rfl, rfl⟩ | simp)) | split at he) <;> first | exact he.elim | exact he.elim | exact ⟨_, _, _, he, by simp only [*, if_true, and_self]⟩ | exact ⟨_, _, _, he.2, by simp only [*, if_true, and_self, he.1]⟩ | (refine ⟨_, _, _, he.2, ?_⟩; have hc := he.1; clear he; simp only [*, if_true, and_self])
 case esc op =>
  simp only [evI] at he ⊢
  obtain ⟨x, u, n', h1, h2⟩ := he
  exact ⟨x, u, n', h2, h1⟩
theorem ZQZ {G : Ctx} {i : I} (hi : ZCh i = true) (hp : ZCF i = true) {r : Regs} {h : Heap} {n : Nat} {x : SV} {u : Heap} {n' : Nat} (he : evI (CallP G) (InvP G) (EscR G) i r h n (fun x' u' m => x' = x /\ u' = u /\ m = n')) :
  u = [] /\ n' = n := by
 cases i
 case mov x =>
  simp only [evI] at he
  exact rA2
 case pick c a b =>
  simp only [evI] at he
  split at he
  ·rcases ZFZ he with ⟨_, hb⟩ | ⟨_, hb⟩ <;> split at hb <;> first | exact hb.elim | exact ⟨hb.2.1.symm, hb.2.2.symm⟩
  ·exact he.elim
 case alloc z =>
  simp [ZCF] at hp
 case box x =>
  simp [ZCF] at hp
 case ld x =>
  simp only [evI] at he
  split at he
  ·obtain ⟨x, h1, h2⟩ := ZLX he
   exact ⟨h1.2.1.symm, h1.2.2.symm⟩
  ·obtain ⟨v, h1, h2⟩ := ZMI he; exact ⟨h1.2.1.symm, h1.2.2.symm⟩
 case lda m x =>
  simp only [evI] at he
  split at he
  ·obtain ⟨x, h1, h2⟩ := ZMH he
   exact ⟨h1.2.1.symm, h1.2.2.symm⟩
  ·obtain ⟨v, h1, h2⟩ := ZKN he; exact ⟨h1.2.1.symm, h1.2.2.symm⟩
 case sto m a x =>
  simp [ZCF] at hp
 case nck x =>
  simp only [evI] at he
  (repeat' split at he) <;> first | exact he.elim | exact ⟨he.2.1.symm, he.2.2.symm⟩ | exact ⟨he.2.2.1.symm, he.2.2.2.symm⟩ | (rw [ZAk] at he; exact ⟨he.2.1.symm, he.2.2.symm⟩) | (rw [ZAt] at he; exact ⟨he.2.2.1.symm, he.2.2.2.symm⟩) | (rw [ZAw] at he; exact ⟨he.2.2.1.symm, he.2.2.2.symm⟩) | (rw [ZAu] at he; exact ⟨he.2.2.1.symm, he.2.2.2.symm⟩) | (rw [ZAx] at he; exact ⟨he.2.2.1.symm, he.2.2.2.symm⟩) | (obtain ⟨v, h1, h2⟩ := ZFa he; exact ⟨h1.2.1.symm, h1.2.2.symm⟩)
 case ar op k x y =>
  simp only [evI] at he
  exact rA2
 case dv op k x y =>
  simp only [evI] at he
  exact rA2
 case bt op k x y =>
  simp only [evI] at he
  exact rA2
 case sh op k x y =>
  simp only [evI] at he
  exact rA2
 case cmp op k x y =>
  simp only [evI] at he
  exact rA2
 case eq c neg x y =>
  simp only [evI] at he
  exact rA2
 case eqa cs neg x y =>
  simp only [evI] at he
  exact rA2
 case cat x y =>
  simp only [evI] at he
  exact rA2
 case not x =>
  simp only [evI] at he
  exact rA2
 case neg k x =>
  simp only [evI] at he
  exact rA2
 case conv k x =>
  simp only [evI] at he
  exact rA2
 case fa off x =>
  simp only [evI] at he
  (repeat' split at he) <;> first | exact he.elim | exact ⟨he.2.1.symm, he.2.2.symm⟩ | exact ⟨he.2.2.1.symm, he.2.2.2.symm⟩ | (rw [ZAk] at he; exact ⟨he.2.1.symm, he.2.2.symm⟩) | (rw [ZAt] at he; exact ⟨he.2.2.1.symm, he.2.2.2.symm⟩) | (rw [ZAw] at he; exact ⟨he.2.2.1.symm, he.2.2.2.symm⟩) | (rw [ZAu] at he; exact ⟨he.2.2.1.symm, he.2.2.2.symm⟩) | (rw [ZAx] at he; exact ⟨he.2.2.1.symm, he.2.2.2.symm⟩) | (obtain ⟨v, h1, h2⟩ := ZFa he; exact ⟨h1.2.1.symm, h1.2.2.symm⟩)
 case ixs wd x i =>
  simp only [evI] at he
  (repeat' split at he) <;> first | exact he.elim | exact ⟨he.2.1.symm, he.2.2.symm⟩ | exact ⟨he.2.2.1.symm, he.2.2.2.symm⟩ | (rw [ZAk] at he; exact ⟨he.2.1.symm, he.2.2.symm⟩) | (rw [ZAt] at he; exact ⟨he.2.2.1.symm, he.2.2.2.symm⟩) | (rw [ZAw] at he; exact ⟨he.2.2.1.symm, he.2.2.2.symm⟩) | (rw [ZAu] at he; exact ⟨he.2.2.1.symm, he.2.2.2.symm⟩) | (rw [ZAx] at he; exact ⟨he.2.2.1.symm, he.2.2.2.symm⟩) | (obtain ⟨v, h1, h2⟩ := ZG3 he; exact ⟨h1.2.1.symm, h1.2.2.symm⟩)
 case ixa sz m x i =>
  simp only [evI] at he
  (repeat' split at he) <;> first | exact he.elim | exact ⟨he.2.1.symm, he.2.2.symm⟩ | exact ⟨he.2.2.1.symm, he.2.2.2.symm⟩ | (rw [ZAk] at he; exact ⟨he.2.1.symm, he.2.2.symm⟩) | (rw [ZAt] at he; exact ⟨he.2.2.1.symm, he.2.2.2.symm⟩) | (rw [ZAw] at he; exact ⟨he.2.2.1.symm, he.2.2.2.symm⟩) | (rw [ZAu] at he; exact ⟨he.2.2.1.symm, he.2.2.2.symm⟩) | (rw [ZAx] at he; exact ⟨he.2.2.1.symm, he.2.2.2.symm⟩) | (obtain ⟨v, h1, h2⟩ := ZG4 he; exact ⟨h1.2.1.symm, h1.2.2.symm⟩)
 case ixt x i =>
  simp only [evI] at he
  split at he
  ·exact ⟨he.2.2.1.symm, he.2.2.2.symm⟩
  ·exact he.elim
 case fld off x =>
  simp only [evI] at he
  exact rA2
 case flda off m x =>
  simp only [evI] at he
  exact rA2
 case ext j x =>
  simp only [evI] at he
  exact rA2
 case bld z parts =>
  simp only [evI, ZBz] at he
  exact rA2
 case bsl wd m z parts =>
  simp [ZCF] at hp
 case mks wd bytes z l c =>
  simp [ZCF] at hp
 case len x =>
  simp only [evI] at he
  (repeat' split at he) <;> first | exact he.elim | exact ⟨he.2.1.symm, he.2.2.symm⟩ | exact ⟨he.2.2.1.symm, he.2.2.2.symm⟩ | (rw [ZAk] at he; exact ⟨he.2.1.symm, he.2.2.symm⟩) | (rw [ZAt] at he; exact ⟨he.2.2.1.symm, he.2.2.2.symm⟩) | (rw [ZAw] at he; exact ⟨he.2.2.1.symm, he.2.2.2.symm⟩) | (rw [ZAu] at he; exact ⟨he.2.2.1.symm, he.2.2.2.symm⟩) | (rw [ZAx] at he; exact ⟨he.2.2.1.symm, he.2.2.2.symm⟩) | (obtain ⟨v, h1, h2⟩ := ZG5 he; exact ⟨h1.2.1.symm, h1.2.2.symm⟩)
 case lens x =>
  simp only [evI] at he
  exact rA2
 case mx k x y =>
  simp only [evI] at he
  exact rA2
 case mn k x y =>
  simp only [evI] at he
  exact rA2
 case slc wd x lo up =>
  cases lo <;> cases up <;> simp only [evI] at he <;> (repeat' split at he) <;> first | exact he.elim | exact ⟨he.2.1.symm, he.2.2.symm⟩ | exact ⟨he.2.2.1.symm, he.2.2.2.symm⟩ | (rw [ZAk] at he; exact ⟨he.2.1.symm, he.2.2.symm⟩) | (rw [ZAt] at he; exact ⟨he.2.2.1.symm, he.2.2.2.symm⟩) | (rw [ZAw] at he; exact ⟨he.2.2.1.symm, he.2.2.2.symm⟩) | (rw [ZAu] at he; exact ⟨he.2.2.1.symm, he.2.2.2.symm⟩) | (rw [ZAx] at he; exact ⟨he.2.2.1.symm, he.2.2.2.symm⟩) | (obtain ⟨v, h1, h2⟩ := ZG6 he; exact ⟨h1.2.1.symm, h1.2.2.symm⟩)
 case slt x lo up =>
  cases lo <;> cases up <;> simp only [evI] at he <;> (repeat' split at he) <;> first | exact he.elim | exact ⟨he.2.1.symm, he.2.2.symm⟩ | exact ⟨he.2.2.1.symm, he.2.2.2.symm⟩ | (rw [ZAk] at he; exact ⟨he.2.1.symm, he.2.2.symm⟩) | (rw [ZAt] at he; exact ⟨he.2.2.1.symm, he.2.2.2.symm⟩) | (rw [ZAw] at he; exact ⟨he.2.2.1.symm, he.2.2.2.symm⟩) | (rw [ZAu] at he; exact ⟨he.2.2.1.symm, he.2.2.2.symm⟩) | (rw [ZAx] at he; exact ⟨he.2.2.1.symm, he.2.2.2.symm⟩)
 case app wd bytes s x =>
  simp [ZCF] at hp
 case call f args =>
  simp [ZCF] at hp
 case callv fv args =>
  simp [ZCF] at hp
 case inv recv name args =>
  simp [ZCF] at hp
 case mki t x =>
  simp only [evI] at he
  exact rA2
 case mkf f caps =>
  simp only [evI] at he
  exact rA2
 case mp q qe op =>
  cases op <;> simp only [ZCF, ZSQ] at hp <;> first | (cases hp; done) | skip
  case ln m => simp only [evI, evM] at he; (repeat' split at he) <;> first | exact he.elim | exact ⟨he.2.1.symm, he.2.2.symm⟩
  case lk m i =>
   simp only [evI, evM] at he
   split at he
   ·split at he
    ·split at he
     ·split at he
      ·obtain ⟨_, _, _, hK, _⟩ := ZEM he; exact ⟨hK.2.1.symm, hK.2.2.symm⟩
      ·exact he.elim
     ·exact he.elim
    ·exact he.elim
   ·exact he.elim
 case esc op =>
  simp [ZCF] at hp
theorem ZQa {G : Ctx} {i : I} (hi : ZCh i = true) (hp : ZCg i = true) {r : Regs} {h : Heap} {n : Nat} {x : SV} {u : Heap} {n' : Nat} (he : evI (CallP G) (InvP G) (EscR G) i r h n (fun x' u' m => x' = x /\ u' = u /\ m = n')) (h2 : Heap) (n2 : Nat) {K : SV -> Heap -> Nat -> Prop} (hk : K x [] n2) :
  evI (CallP G) (InvP G) (EscR G) i r h2 n2 K := by
 cases i
 case mov x =>
  simp only [evI] at he ⊢
  exact rA3
 case pick c a b =>
  simp only [evI] at he ⊢
  split at he
  ·rcases ZFZ he with ⟨rfl, hb⟩ | ⟨rfl, hb⟩ <;> clear he <;> split at hb <;> first | exact hb.elim | (rename_i v hv; obtain ⟨rfl, _⟩ := hb; simpa [hv] using hk)
  ·exact he.elim
 case alloc z =>
  simp [ZCg] at hp
 case box x =>
  simp [ZCg] at hp
 case ld x =>
  simp [ZCg] at hp
 case lda m x =>
  simp [ZCg] at hp
 case sto m a x =>
  simp [ZCg] at hp
 case nck x =>
  simp only [evI] at he ⊢
  exact rA4
 case ar op k x y =>
  simp only [evI] at he ⊢
  exact rA3
 case dv op k x y =>
  simp only [evI] at he ⊢
  exact rA3
 case bt op k x y =>
  simp only [evI] at he ⊢
  exact rA3
 case sh op k x y =>
  simp only [evI] at he ⊢
  exact rA3
 case cmp op k x y =>
  simp only [evI] at he ⊢
  exact rA3
 case eq c neg x y =>
  simp only [evI] at he ⊢
  exact rA3
 case eqa cs neg x y =>
  simp only [evI] at he ⊢
  exact rA3
 case cat x y =>
  simp only [evI] at he ⊢
  exact rA3
 case not x =>
  simp only [evI] at he ⊢
  exact rA3
 case neg k x =>
  simp only [evI] at he ⊢
  exact rA3
 case conv k x =>
  simp only [evI] at he ⊢
  exact rA3
 case fa off x =>
  simp only [evI] at he ⊢
  exact rA4
 case ixs wd x i =>
  simp only [evI] at he ⊢
  (repeat' split at he) <;> first | exact he.elim | (obtain ⟨rfl, _⟩ := he; exact hk) | (obtain ⟨hc, rfl, _⟩ := he; exact ⟨hc, hk⟩) | (simp only [ZAk] at he ⊢; (obtain ⟨rfl, _⟩ := he; exact hk)) | (simp only [ZAt] at he ⊢; (obtain ⟨hc, rfl, _⟩ := he; exact ⟨hc, hk⟩)) | (simp only [ZAw] at he ⊢; (obtain ⟨hc, rfl, _⟩ := he; exact ⟨hc, hk⟩)) | (simp only [ZAu] at he ⊢; (obtain ⟨hc, rfl, _⟩ := he; exact ⟨hc, hk⟩)) | (simp only [ZAx] at he ⊢; (obtain ⟨hc, rfl, _⟩ := he; exact ⟨hc, hk⟩)) | (obtain ⟨rfl, _⟩ := he; subst_vars; simpa using hk) | (simp only [*, if_true]; first | (obtain ⟨rfl, _⟩ := he; exact hk) | (obtain ⟨hc, rfl, _⟩ := he; exact ⟨hc, hk⟩) | (simp only [ZAk] at he ⊢; (obtain ⟨rfl, _⟩ := he; exact hk)) | (simp only [ZAt] at he ⊢; (obtain ⟨hc, rfl, _⟩ := he; exact ⟨hc, hk⟩)) | (simp only [ZAw] at he ⊢; (obtain ⟨hc, rfl, _⟩ := he; exact ⟨hc, hk⟩)) | (simp only [ZAu] at he ⊢; (obtain ⟨hc, rfl, _⟩ := he; exact ⟨hc, hk⟩)) | (simp only [ZAx] at he ⊢; (obtain ⟨hc, rfl, _⟩ := he; exact ⟨hc, hk⟩))) | (obtain ⟨v, ⟨rfl, _, _⟩, h2⟩ := ZG3 he; first | exact h2 _ hk | (split <;> first | (exfalso; simp_all; done) | exact h2 _ hk))
 case ixa sz m x i =>
  simp only [evI] at he ⊢
  (repeat' split at he) <;> first | exact he.elim | (obtain ⟨rfl, _⟩ := he; exact hk) | (obtain ⟨hc, rfl, _⟩ := he; exact ⟨hc, hk⟩) | (simp only [ZAk] at he ⊢; (obtain ⟨rfl, _⟩ := he; exact hk)) | (simp only [ZAt] at he ⊢; (obtain ⟨hc, rfl, _⟩ := he; exact ⟨hc, hk⟩)) | (simp only [ZAw] at he ⊢; (obtain ⟨hc, rfl, _⟩ := he; exact ⟨hc, hk⟩)) | (simp only [ZAu] at he ⊢; (obtain ⟨hc, rfl, _⟩ := he; exact ⟨hc, hk⟩)) | (simp only [ZAx] at he ⊢; (obtain ⟨hc, rfl, _⟩ := he; exact ⟨hc, hk⟩)) | (obtain ⟨rfl, _⟩ := he; subst_vars; simpa using hk) | (simp only [*, if_true]; first | (obtain ⟨rfl, _⟩ := he; exact hk) | (obtain ⟨hc, rfl, _⟩ := he; exact ⟨hc, hk⟩) | (simp only [ZAk] at he ⊢; (obtain ⟨rfl, _⟩ := he; exact hk)) | (simp only [ZAt] at he ⊢; (obtain ⟨hc, rfl, _⟩ := he; exact ⟨hc, hk⟩)) | (simp only [ZAw] at he ⊢; (obtain ⟨hc, rfl, _⟩ := he; exact ⟨hc, hk⟩)) | (simp only [ZAu] at he ⊢; (obtain ⟨hc, rfl, _⟩ := he; exact ⟨hc, hk⟩)) | (simp only [ZAx] at he ⊢; (obtain ⟨hc, rfl, _⟩ := he; exact ⟨hc, hk⟩))) | (obtain ⟨v, ⟨rfl, _, _⟩, h2⟩ := ZG4 he; first | exact h2 _ hk | (split <;> first | (exfalso; simp_all; done) | exact h2 _ hk))
 case ixt x i =>
  simp only [evI] at he ⊢
  split at he
  ·obtain ⟨hc, rfl, _⟩ := he
   exact ⟨hc, hk⟩
  ·exact he.elim
 case fld off x =>
  simp only [evI] at he ⊢
  exact rA3
 case flda off m x =>
  simp only [evI] at he ⊢
  exact rA3
 case ext j x =>
  simp only [evI] at he ⊢
  exact rA3
 case bld z parts =>
  simp only [evI, ZBz] at he ⊢
  exact rA3
 case bsl wd m z parts =>
  simp [ZCg] at hp
 case mks wd bytes z l c =>
  simp [ZCg] at hp
 case len x =>
  simp only [evI] at he ⊢
  (repeat' split at he) <;> first | exact he.elim | (obtain ⟨rfl, _⟩ := he; exact hk) | (obtain ⟨hc, rfl, _⟩ := he; exact ⟨hc, hk⟩) | (simp only [ZAk] at he ⊢; (obtain ⟨rfl, _⟩ := he; exact hk)) | (simp only [ZAt] at he ⊢; (obtain ⟨hc, rfl, _⟩ := he; exact ⟨hc, hk⟩)) | (simp only [ZAw] at he ⊢; (obtain ⟨hc, rfl, _⟩ := he; exact ⟨hc, hk⟩)) | (simp only [ZAu] at he ⊢; (obtain ⟨hc, rfl, _⟩ := he; exact ⟨hc, hk⟩)) | (simp only [ZAx] at he ⊢; (obtain ⟨hc, rfl, _⟩ := he; exact ⟨hc, hk⟩)) | (obtain ⟨rfl, _⟩ := he; subst_vars; simpa using hk) | (simp only [*, if_true]; first | (obtain ⟨rfl, _⟩ := he; exact hk) | (obtain ⟨hc, rfl, _⟩ := he; exact ⟨hc, hk⟩) | (simp only [ZAk] at he ⊢; (obtain ⟨rfl, _⟩ := he; exact hk)) | (simp only [ZAt] at he ⊢; (obtain ⟨hc, rfl, _⟩ := he; exact ⟨hc, hk⟩)) | (simp only [ZAw] at he ⊢; (obtain ⟨hc, rfl, _⟩ := he; exact ⟨hc, hk⟩)) | (simp only [ZAu] at he ⊢; (obtain ⟨hc, rfl, _⟩ := he; exact ⟨hc, hk⟩)) | (simp only [ZAx] at he ⊢; (obtain ⟨hc, rfl, _⟩ := he; exact ⟨hc, hk⟩))) | (obtain ⟨v, ⟨rfl, _, _⟩, h2⟩ := ZG5 he; first | exact h2 _ hk | (split <;> first | (exfalso; simp_all; done) | exact h2 _ hk))
 case lens x =>
  simp only [evI] at he ⊢
  exact rA3
 case mx k x y =>
  simp only [evI] at he ⊢
  exact rA3
 case mn k x y =>
  simp only [evI] at he ⊢
  exact rA3
 case slc wd x lo up =>
  cases lo <;> cases up <;> simp only [evI] at he ⊢ <;> (repeat' split at he) <;> first | exact he.elim | (obtain ⟨rfl, _⟩ := he; exact hk) | (obtain ⟨hc, rfl, _⟩ := he; exact ⟨hc, hk⟩) | (simp only [ZAk] at he ⊢; (obtain ⟨rfl, _⟩ := he; exact hk)) | (simp only [ZAt] at he ⊢; (obtain ⟨hc, rfl, _⟩ := he; exact ⟨hc, hk⟩)) | (simp only [ZAw] at he ⊢; (obtain ⟨hc, rfl, _⟩ := he; exact ⟨hc, hk⟩)) | (simp only [ZAu] at he ⊢; (obtain ⟨hc, rfl, _⟩ := he; exact ⟨hc, hk⟩)) | (simp only [ZAx] at he ⊢; (obtain ⟨hc, rfl, _⟩ := he; exact ⟨hc, hk⟩)) | (obtain ⟨rfl, _⟩ := he; subst_vars; simpa using hk) | (simp only [*, if_true]; first | (obtain ⟨rfl, _⟩ := he; exact hk) | (obtain ⟨hc, rfl, _⟩ := he; exact ⟨hc, hk⟩) | (simp only [ZAk] at he ⊢; (obtain ⟨rfl, _⟩ := he; exact hk)) | (simp only [ZAt] at he ⊢; (obtain ⟨hc, rfl, _⟩ := he; exact ⟨hc, hk⟩)) | (simp only [ZAw] at he ⊢; (obtain ⟨hc, rfl, _⟩ := he; exact ⟨hc, hk⟩)) | (simp only [ZAu] at he ⊢; (obtain ⟨hc, rfl, _⟩ := he; exact ⟨hc, hk⟩)) | (simp only [ZAx] at he ⊢; (obtain ⟨hc, rfl, _⟩ := he; exact ⟨hc, hk⟩))) | (obtain ⟨v, ⟨rfl, _, _⟩, h2⟩ := ZG6 he; first | exact h2 _ hk | (split <;> first | (exfalso; simp_all; done) | exact h2 _ hk))
 case slt x lo up =>
  cases lo <;> cases up <;> simp only [evI] at he ⊢ <;> (repeat' split at he) <;> first | exact he.elim | (obtain ⟨rfl, _⟩ := he; exact hk) | (obtain ⟨hc, rfl, _⟩ := he; exact ⟨hc, hk⟩) | (simp only [ZAk] at he ⊢; (obtain ⟨rfl, _⟩ := he; exact hk)) | (simp only [ZAt] at he ⊢; (obtain ⟨hc, rfl, _⟩ := he; exact ⟨hc, hk⟩)) | (simp only [ZAw] at he ⊢; (obtain ⟨hc, rfl, _⟩ := he; exact ⟨hc, hk⟩)) | (simp only [ZAu] at he ⊢; (obtain ⟨hc, rfl, _⟩ := he; exact ⟨hc, hk⟩)) | (simp only [ZAx] at he ⊢; (obtain ⟨hc, rfl, _⟩ := he; exact ⟨hc, hk⟩)) | (obtain ⟨rfl, _⟩ := he; subst_vars; simpa using hk) | (simp only [*, if_true]; first | (obtain ⟨rfl, _⟩ := he; exact hk) | (obtain ⟨hc, rfl, _⟩ := he; exact ⟨hc, hk⟩) | (simp only [ZAk] at he ⊢; (obtain ⟨rfl, _⟩ := he; exact hk)) | (simp only [ZAt] at he ⊢; (obtain ⟨hc, rfl, _⟩ := he; exact ⟨hc, hk⟩)) | (simp only [ZAw] at he ⊢; (obtain ⟨hc, rfl, _⟩ := he; exact ⟨hc, hk⟩)) | (simp only [ZAu] at he ⊢; (obtain ⟨hc, rfl, _⟩ := he; exact ⟨hc, hk⟩)) | (simp only [ZAx] at he ⊢; (obtain ⟨hc, rfl, _⟩ := he; exact ⟨hc, hk⟩)))
 case app wd bytes s x =>
  simp [ZCg] at hp
 case call f args =>
  simp [ZCg] at hp
 case callv fv args =>
  simp [ZCg] at hp
 case inv recv name args =>
  simp [ZCg] at hp
 case mki t x =>
  simp only [evI] at he ⊢
  exact rA3
 case mkf f caps =>
  simp only [evI] at he ⊢
  exact rA3
 case mp q qe op =>
  simp [ZCg] at hp
 case esc op =>
  simp [ZCg] at hp
end Go.Sx
