/- part -/
import Derived.Test.YtlkfolopbehikaaGreatSxQ
set_option linter.unusedSimpArgs false
set_option linter.unusedVariables false
set_option linter.unusedSectionVars false
namespace Go.Sx
open Go
def ZOK : List Operand -> List Nat
 | [] => []
 | .tmp t :: xs => t :: ZOK xs
 | _ :: xs => ZOK xs
def ZJy (op : Op) : List Nat := ZOK op.operands.toList
def lk : O -> List Nat
 | .r t => [t]
 | .c _ => []
def lkO : Option O -> List Nat
 | none => []
 | some x => lk x
def lkS : List O -> List Nat
 | [] => []
 | x :: xs => lk x ++ lkS xs
def lkP : List (Nat × Nat × O) -> List Nat
 | [] => []
 | x :: xs => lk x.2.2 ++ lkP xs
def lkM : MOp -> List Nat
 | .mk => []
 | .ln m => lk m
 | .lk m i => lk m ++ lk i
 | .dl m i => lk m ++ lk i
 | .en m i => lk m ++ lk i
 | .up m i v => lk m ++ lk i ++ lk v
 | .st m s v => lk m ++ lk s ++ lk v
def ZAT : I -> List Nat
 | .mov x => lk x
 | .pick c a b => lk c ++ lk a ++ lk b
 | .alloc _ => []
 | .box x => lk x
 | .ld x => lk x
 | .lda _ x => lk x
 | .sto _ a x => lk a ++ lk x
 | .nck x => lk x
 | .ar _ _ x y => lk x ++ lk y
 | .dv _ _ x y => lk x ++ lk y
 | .bt _ _ x y => lk x ++ lk y
 | .sh _ _ x y => lk x ++ lk y
 | .cmp _ _ x y => lk x ++ lk y
 | .eq _ _ x y => lk x ++ lk y
 | .eqa _ _ x y => lk x ++ lk y
 | .cat x y => lk x ++ lk y
 | .not x => lk x
 | .neg _ x => lk x
 | .conv _ x => lk x
 | .fa _ x => lk x
 | .ixs _ x i => lk x ++ lk i
 | .ixa _ _ x i => lk x ++ lk i
 | .ixt x i => lk x ++ lk i
 | .fld _ x => lk x
 | .flda _ _ x => lk x
 | .ext _ x => lk x
 | .bld _ parts => lkP parts
 | .bsl _ _ _ parts => lkP parts
 | .mks _ _ _ l c => lk l ++ lk c
 | .len x => lk x
 | .lens x => lk x
 | .mx _ x y => lk x ++ lk y
 | .mn _ x y => lk x ++ lk y
 | .slc _ x lo hi => lk x ++ lkO lo ++ lkO hi
 | .slt x lo hi => lk x ++ lkO lo ++ lkO hi
 | .app _ _ s x => lk s ++ lk x
 | .call _ args => lkS args
 | .callv fv args => lk fv ++ lkS args
 | .inv recv _ args => lk recv ++ lkS args
 | .mki _ x => lk x
 | .mkf _ caps => lkS caps
 | .mp _ _ op => lkM op
 | .esc op => ZJy op
def ZRB : MOp -> Bool
 | .ln _ => true
 | .lk _ _ => true
 | _ => false
def ZCH : I -> Bool
 | .mp _ _ op => ZRB op
 | .alloc .. => false
 | .box .. => false
 | .sto .. => false
 | .bsl .. => false
 | .mks .. => false
 | .app .. => false
 | .call .. => false
 | .callv .. => false
 | .inv .. => false
 | .esc .. => false
 | _ => true
def ZCj : I -> Bool
 | .mp .. => false
 | .alloc .. => false
 | .box .. => false
 | .ld .. => false
 | .lda .. => false
 | .sto .. => false
 | .bsl .. => false
 | .mks .. => false
 | .app .. => false
 | .call .. => false
 | .callv .. => false
 | .inv .. => false
 | .esc .. => false
 | _ => true
def ZCk : I -> Bool := fun _ => true
def restr (l : List Nat) (r : Regs) : Regs := r.filter fun p => l.any (Nat.beq p.1)
theorem ZBp (l : List Nat) : ∀ (r : Regs) (t : Nat), rget (restr l r) t = if t ∈ l then rget r t else none
 | [], t => by simp [restr, rget]
 | (t', x) :: r, t => by
  have ih := ZBp l r t
  unfold restr at ih ⊢
  rw [List.filter_cons]
  by_cases hm : t' ∈ l
  ·have : l.any (Nat.beq t') = true := List.any_eq_true.2 ⟨t', hm, Nat.beq_refl t'⟩
   simp only [this, if_true, ZBM, ih]
   by_cases e : t' = t
   ·subst e; simp [hm]
   ·simp [e]
  ·have : l.any (Nat.beq t') = false := by
    cases hq : l.any (Nat.beq t') with
    | false => rfl
    | true =>
     obtain ⟨y, h1, h2⟩ := List.any_eq_true.1 hq
     exact absurd (Nat.eq_of_beq_eq_true h2 ▸ h1) hm
   simp only [this, Bool.false_eq_true, if_false, ih, ZBM]
   by_cases e : t' = t
   ·subst e; simp [hm]
   ·simp [e]
structure CallD (G : Ctx) (f : FuncId) (xs : List AV) (h : Heap) (n : Nat) (K : SV -> Heap -> Nat -> Prop) : Prop where
 out :   ∃ x u n', CallP G f xs h n (fun x' u' m => x' = x /\ u' = u /\ m = n') /\ K x u n'
theorem ZFF (G : Ctx) (f : FuncId) (xs : List AV) (h : Heap) (n : Nat) (K : SV -> Heap -> Nat -> Prop) : CallD G f xs h n K = (∃ x u n', CallP G f xs h n (fun x' u' m => x' = x /\ u' = u /\ m = n') /\ K x u n') := propext ⟨fun h => h.out, fun h => ⟨h⟩⟩
structure InvD (G : Ctx) (recv : AV) (name : String) (xs : List AV) (h : Heap) (n : Nat) (K : SV -> Heap -> Nat -> Prop) : Prop where
 out : ∃ x u n', InvP G recv name xs h n (fun x' u' m => x' = x /\ u' = u /\ m = n') /\ K x u n'
def EscR (G : Ctx) (op : Op) (r : Regs) (h : Heap) (n : Nat) (K : SV -> Heap -> Nat -> Prop) : Prop := EscP G op (restr (ZJy op) r) h n K
structure EscD (G : Ctx) (op : Op) (r : Regs) (h : Heap) (n : Nat) (K : SV -> Heap -> Nat -> Prop) : Prop where
 out : ∃ x u n', EscR G op r h n (fun x' u' m => x' = x /\ u' = u /\ m = n') /\ K x u n'
theorem EscP.congr {G : Ctx} {op : Op} {r r' : Regs} {h : Heap} {n : Nat} {K : SV -> Heap -> Nat -> Prop} (H : ∀ t, rget r t = rget r' t) : EscP G op r h n K = EscP G op r' h n K := by
 have one : ∀ {r r' : Regs}, (∀ t, rget r t = rget r' t) -> EscP G op r h n K -> EscP G op r' h n K := fun {r r'} H he => by
  rw [ZCy] at he ⊢
  exact fun G' hP o ρ φ a w ho g hr => he G' hP o ρ φ a w ho g fun t x hx => hr t x (by rw [<- H]; exact hx)
 exact propext ⟨one H, one fun t => (H t).symm⟩
theorem EscR.congr {G : Ctx} {op : Op} {r r' : Regs} (H : ∀ t ∈ ZJy op, rget r t = rget r' t) : EscR G op r = EscR G op r' := by
 funext h n K
 unfold EscR
 refine EscP.congr fun t => ?_
 rw [ZBp, ZBp]
 split
 ·exact H t (by assumption)
 ·rfl
theorem EscD.congr {G : Ctx} {op : Op} {r r' : Regs} (H : ∀ t ∈ ZJy op, rget r t = rget r' t) : EscD G op r = EscD G op r' := by
 funext h n K
 have e := EscR.congr (G := G) H
 exact propext ⟨fun ⟨x, u, n', h1, h2⟩ => ⟨x, u, n', by rw [<- e]; exact h1, h2⟩, fun ⟨x, u, n', h1, h2⟩ => ⟨x, u, n', by rw [e]; exact h1, h2⟩⟩
theorem EscR.out {G : Ctx} {op : Op} {r : Regs} {h : Heap} {n : Nat} {K : SV -> Heap -> Nat -> Prop} (he : EscR G op r h n K) : EscP G op r h n K := by
 unfold EscR at he
 rw [ZCy] at he ⊢
 exact fun G' hP o ρ φ a w ho g hr => he G' hP o ρ φ a w ho g fun t x hx => hr t x (by
  rw [ZBp] at hx
  split at hx
  ·exact hx
  ·cases hx)
theorem ZAE {r r' : Regs} {x : O} (h : ∀ t ∈ lk x, rget r t = rget r' t) : oget r x = oget r' x := by
 cases x with
 | r t => simp only [oget, h t (by simp [lk])]
 | c x => rfl
theorem ZDl {r r' : Regs} : ∀ {xs : List O}, (∀ t ∈ lkS xs, rget r t = rget r' t) -> ogets r xs = ogets r' xs
 | [], _ => rfl
 | x :: xs, h => by
  simp only [ogets, ZAE (x := x) fun t ht => h t (by simp [lkS, ht]), ZDl (xs := xs) fun t ht => h t (by simp [lkS, ht])]
theorem ZEm {r r' : Regs} : ∀ {xs : List (Nat × Nat × O)} (acc : Option (List LV)), (∀ t ∈ lkP xs, rget r t = rget r' t) -> xs.foldl (ZFr r) acc = xs.foldl (ZFr r') acc
 | [], _, _ => rfl
 | x :: xs, acc, h => by
  have e : ZFr r acc x = ZFr r' acc x := by simp only [ZFr, ZAE (x := x.2.2) fun t ht => h t (by simp [lkP, ht])]
  simp only [List.foldl, e]
  exact ZEm _ fun t ht => h t (by simp [lkP, ht])
theorem ZHc {α β : Type} {f f' : α -> β -> β} : ∀ {xs : List α} (acc : β), (∀ x ∈ xs, ∀ b, f x b = f' x b) -> xs.foldr f acc = xs.foldr f' acc
 | [], _, _ => rfl
 | x :: xs, acc, h => by
  simp only [List.foldr]
  rw [ZHc acc fun y hy => h y (by simp [hy]), h x (by simp)]
theorem ZQa {xs : List O} {x : O} (hx : x ∈ xs) : ∀ t ∈ lk x, t ∈ lkS xs := by
 induction xs with
 | nil => cases hx
 | cons y ys ih =>
  intro t ht
  rcases List.mem_cons.1 hx with rfl | hx
  ·simp [lkS, ht]
  ·simp [lkS, ih hx t ht]
section
variable {CP : FuncId -> List AV -> Heap -> Nat -> (SV -> Heap -> Nat -> Prop) -> Prop}
variable {IP : AV -> String -> List AV -> Heap -> Nat -> (SV -> Heap -> Nat -> Prop) -> Prop}
variable {EP : Op -> Regs -> Heap -> Nat -> (SV -> Heap -> Nat -> Prop) -> Prop}
theorem ZJz (hEP : ∀ op r r', (∀ t ∈ ZJy op, rget r t = rget r' t) -> EP op r = EP op r') {i : I} (hi : ZCk i = true) {r r' : Regs} (H : ∀ t ∈ ZAT i, rget r t = rget r' t) (h : Heap) (n : Nat) (K : SV -> Heap -> Nat -> Prop) : evI CP IP EP i r h n K = evI CP IP EP i r' h n K := by
 cases i
 case mov x =>
  cases x with
  | c y => simp only [evI, oget]
  | r t =>
   have ht : rget r t = rget r' t := H t (by simp [ZAT, lk])
   simp only [evI, oget, ht]
 case pick c a b => simp only [evI, ZAE (x := c) (fun t ht => H t (by simp [ZAT, ht])), ZAE (x := a) (fun t ht => H t (by simp [ZAT, ht])), ZAE (x := b) (fun t ht => H t (by simp [ZAT, ht]))]
 case alloc z => simp only [evI]
 case box x => simp only [evI, ZAE (x := x) (fun t ht => H t (by simp [ZAT, ht]))]
 case ld x => simp only [evI, ZAE (x := x) (fun t ht => H t (by simp [ZAT, ht]))]
 case lda m x => simp only [evI, ZAE (x := x) (fun t ht => H t (by simp [ZAT, ht]))]
 case sto m a x => simp only [evI, ZAE (x := a) (fun t ht => H t (by simp [ZAT, ht])), ZAE (x := x) (fun t ht => H t (by simp [ZAT, ht]))]
 case nck x => simp only [evI, ZAE (x := x) (fun t ht => H t (by simp [ZAT, ht]))]
 case ar op k x y => simp only [evI, ZAE (x := x) (fun t ht => H t (by simp [ZAT, ht])), ZAE (x := y) (fun t ht => H t (by simp [ZAT, ht]))]
 case dv op k x y => simp only [evI, ZAE (x := x) (fun t ht => H t (by simp [ZAT, ht])), ZAE (x := y) (fun t ht => H t (by simp [ZAT, ht]))]
 case bt op k x y => simp only [evI, ZAE (x := x) (fun t ht => H t (by simp [ZAT, ht])), ZAE (x := y) (fun t ht => H t (by simp [ZAT, ht]))]
 case sh op k x y => simp only [evI, ZAE (x := x) (fun t ht => H t (by simp [ZAT, ht])), ZAE (x := y) (fun t ht => H t (by simp [ZAT, ht]))]
 case cmp op k x y => simp only [evI, ZAE (x := x) (fun t ht => H t (by simp [ZAT, ht])), ZAE (x := y) (fun t ht => H t (by simp [ZAT, ht]))]
 case eq c neg x y => simp only [evI, ZAE (x := x) (fun t ht => H t (by simp [ZAT, ht])), ZAE (x := y) (fun t ht => H t (by simp [ZAT, ht]))]
 case eqa cs neg x y => simp only [evI, ZAE (x := x) (fun t ht => H t (by simp [ZAT, ht])), ZAE (x := y) (fun t ht => H t (by simp [ZAT, ht]))]
 case cat x y => simp only [evI, ZAE (x := x) (fun t ht => H t (by simp [ZAT, ht])), ZAE (x := y) (fun t ht => H t (by simp [ZAT, ht]))]
 case not x => simp only [evI, ZAE (x := x) (fun t ht => H t (by simp [ZAT, ht]))]
 case neg k x => simp only [evI, ZAE (x := x) (fun t ht => H t (by simp [ZAT, ht]))]
 case conv k x => simp only [evI, ZAE (x := x) (fun t ht => H t (by simp [ZAT, ht]))]
 case fa off x => simp only [evI, ZAE (x := x) (fun t ht => H t (by simp [ZAT, ht]))]
 case ixs wd x i => simp only [evI, ZAE (x := x) (fun t ht => H t (by simp [ZAT, ht])), ZAE (x := i) (fun t ht => H t (by simp [ZAT, ht]))]
 case ixa sz m x i => simp only [evI, ZAE (x := x) (fun t ht => H t (by simp [ZAT, ht])), ZAE (x := i) (fun t ht => H t (by simp [ZAT, ht]))]
 case ixt x i => simp only [evI, ZAE (x := x) (fun t ht => H t (by simp [ZAT, ht])), ZAE (x := i) (fun t ht => H t (by simp [ZAT, ht]))]
 case fld off x => simp only [evI, ZAE (x := x) (fun t ht => H t (by simp [ZAT, ht]))]
 case flda off m x => simp only [evI, ZAE (x := x) (fun t ht => H t (by simp [ZAT, ht]))]
 case ext j x =>
  cases x with
  | r t => simp only [evI, H t (by simp [ZAT, lk])]
  | c x => rfl
 case bld z parts => simp only [evI, ZEm (xs := parts) _ (fun t ht => H t (by simp [ZAT, ht]))]
 case bsl wd m z parts => simp only [evI, ZEm (xs := parts) _ (fun t ht => H t (by simp [ZAT, ht]))]
 case mks wd bytes z l c => simp only [evI, ZAE (x := l) (fun t ht => H t (by simp [ZAT, ht])), ZAE (x := c) (fun t ht => H t (by simp [ZAT, ht]))]
 case len x => simp only [evI, ZAE (x := x) (fun t ht => H t (by simp [ZAT, ht]))]
 case lens x => simp only [evI, ZAE (x := x) (fun t ht => H t (by simp [ZAT, ht]))]
 case mx k x y => simp only [evI, ZAE (x := x) (fun t ht => H t (by simp [ZAT, ht])), ZAE (x := y) (fun t ht => H t (by simp [ZAT, ht]))]
 case mn k x y => simp only [evI, ZAE (x := x) (fun t ht => H t (by simp [ZAT, ht])), ZAE (x := y) (fun t ht => H t (by simp [ZAT, ht]))]
 case slc wd x lo up =>
  have h1 := ZAE (x := x) (fun t ht => H t (by simp [ZAT, ht]))
  have h2 : ∀ y, lo = some y -> oget r y = oget r' y := fun y hy => ZAE fun t ht => H t (by simp [ZAT, lkO, hy, ht])
  have h3 : ∀ y, up = some y -> oget r y = oget r' y := fun y hy => ZAE fun t ht => H t (by simp [ZAT, lkO, hy, ht])
  have h4 : ∀ y K', slcX wd r y lo up K' = slcX wd r' y lo up K' := fun y K' => by
   unfold slcX
   cases lo <;> cases up <;> (try dsimp only) <;> (try simp only [h2 _ rfl]) <;> (try simp only [h3 _ rfl])
  cases lo <;> cases up <;> simp only [evI, h1, h4] <;> (try simp only [h2 _ rfl]) <;> (try simp only [h3 _ rfl])
 case slt x lo up =>
  have h1 := ZAE (x := x) (fun t ht => H t (by simp [ZAT, ht]))
  have h2 : ∀ y, lo = some y -> oget r y = oget r' y := fun y hy => ZAE fun t ht => H t (by simp [ZAT, lkO, hy, ht])
  have h3 : ∀ y, up = some y -> oget r y = oget r' y := fun y hy => ZAE fun t ht => H t (by simp [ZAT, lkO, hy, ht])
  cases lo <;> cases up <;> simp only [evI, h1] <;> (try simp only [h2 _ rfl]) <;> (try simp only [h3 _ rfl])
 case app wd bytes s x => simp only [evI, ZAE (x := s) (fun t ht => H t (by simp [ZAT, ht])), ZAE (x := x) (fun t ht => H t (by simp [ZAT, ht]))]
 case call f args => simp only [evI, ZDl (xs := args) (fun t ht => H t (by simp [ZAT, ht]))]
 case callv fv args => simp only [evI, ZAE (x := fv) (fun t ht => H t (by simp [ZAT, ht])), ZDl (xs := args) (fun t ht => H t (by simp [ZAT, ht]))]
 case inv recv name args => simp only [evI, ZAE (x := recv) (fun t ht => H t (by simp [ZAT, ht])), ZDl (xs := args) (fun t ht => H t (by simp [ZAT, ht]))]
 case mki t x => simp only [evI, ZAE (x := x) (fun t ht => H t (by simp [ZAT, ht]))]
 case mkf f caps =>
  simp only [evI]
  rw [ZHc]
  intro o ho acc
  simp only [ZAE (x := o) fun t ht => H t (ZQa ho t ht)]
 case mp q qe op =>
  cases op <;> simp only [evI, evM]
  case lk m i => simp only [ZAE (x := m) (fun t ht => H t (by simp [ZAT, lkM, ht])), ZAE (x := i) (fun t ht => H t (by simp [ZAT, lkM, ht]))]
  case up m i v => simp only [ZAE (x := m) (fun t ht => H t (by simp [ZAT, lkM, ht])), ZAE (x := i) (fun t ht => H t (by simp [ZAT, lkM, ht])), ZAE (x := v) (fun t ht => H t (by simp [ZAT, lkM, ht]))]
  case dl m i => simp only [ZAE (x := m) (fun t ht => H t (by simp [ZAT, lkM, ht])), ZAE (x := i) (fun t ht => H t (by simp [ZAT, lkM, ht]))]
  case ln m => simp only [ZAE (x := m) (fun t ht => H t (by simp [ZAT, lkM, ht]))]
  case en m i => simp only [ZAE (x := m) (fun t ht => H t (by simp [ZAT, lkM, ht])), ZAE (x := i) (fun t ht => H t (by simp [ZAT, lkM, ht]))]
  case st m s v => simp only [ZAE (x := m) (fun t ht => H t (by simp [ZAT, lkM, ht])), ZAE (x := s) (fun t ht => H t (by simp [ZAT, lkM, ht])), ZAE (x := v) (fun t ht => H t (by simp [ZAT, lkM, ht]))]
 case esc op => simp only [evI, hEP op r r' (fun t ht => H t (by simp [ZAT, ht]))]
end
theorem ZFG {kf kt : Prop} {b : Bool} (h : @Bool.rec (fun _ => Prop) kf kt b) : (b = true /\ kt) \/ (b = false /\ kf) := by cases b; exact .inr ⟨rfl, h⟩; exact .inl ⟨rfl, h⟩
theorem ZK5 {h : Heap} {k wd row col : Nat} {K : LV -> Prop} (he : ldAt h k wd row col K) : ∃ x, K x /\ ldAt h k wd row col (fun y => y = x) := by
 unfold ldAt at he ⊢
 split at he
 ·split at he
  ·exact ⟨_, he, by simp only [*]⟩
  ·exact he.elim
 ·split at he
  ·obtain ⟨h1, he⟩ := he
   split at he
   ·rw [ZAu] at he
    exact ⟨_, he, by simp only [*, ZAu, and_self]⟩
   ·exact he.elim
  ·exact he.elim
 ·split at he
  ·obtain ⟨h1, he⟩ := he
   split at he
   ·rw [ZAu] at he
    exact ⟨_, he, by simp only [*, ZAu, and_self]⟩
   ·exact he.elim
  ·exact he.elim
 ·split at he
  ·obtain ⟨⟨rfl, h1⟩, he⟩ := he
   exact ⟨_, he, by simp only [*, and_self]⟩
  ·exact he.elim
 ·exact he.elim
theorem ZLl {h : Heap} {k wd row col m : Nat} {K : List LV -> Prop} (he : ZEO h k wd row col m K) : ∃ x, K x /\ ZEO h k wd row col m (fun y => y = x) := by
 unfold ZEO at he ⊢
 simp only [ZBv] at he ⊢
 split at he
 ·split at he
  ·exact ⟨_, he, by simp only [*]⟩
  ·exact he.elim
 ·split at he
  ·obtain ⟨h1, he⟩ := he
   split at he
   ·rw [ZB1] at he
    exact ⟨_, he, by simp only [*, ZB1, and_self]⟩
   ·exact he.elim
  ·exact he.elim
 ·split at he
  ·obtain ⟨h1, he⟩ := he
   split at he
   ·rw [ZB1] at he
    exact ⟨_, he, by simp only [*, ZB1, and_self]⟩
   ·exact he.elim
  ·exact he.elim
 ·exact he.elim
theorem ZQb {h : Heap} {k wd row col m : Nat} {x : AV} {K : Heap -> Prop} (he : stAt h k wd row col m x K) : ∃ u, K u /\ stAt h k wd row col m x (fun y => y = u) := by
 unfold stAt at he ⊢
 simp only [ZBv] at he ⊢
 split at he
 ·split at he
  ·split at he
   ·exact ⟨_, he, by simp only [*]⟩
   ·exact he.elim
  ·split at he
   ·obtain ⟨h1, he⟩ := he
    exact ⟨_, he, by simp only [*, and_self]⟩
   ·exact he.elim
  ·split at he
   ·split at he
    ·obtain ⟨⟨rfl, h1⟩, he⟩ := he
     rw [ZGW] at he
     exact ⟨_, he, by simp only [*, ZGW, and_self]⟩
    ·exact he.elim
   ·exact he.elim
  ·exact he.elim
 ·exact he.elim
theorem ZQc {h : Heap} {k wd row col : Nat} {K K' : LV -> Prop} (hk : ∀ x, K x -> K' x) (he : ldAt h k wd row col K) : ldAt h k wd row col K' := by
 obtain ⟨x, h1, h2⟩ := ZK5 he
 unfold ldAt at he ⊢
 split at he
 ·split at he
  ·exact hk _ he
  ·exact he.elim
 ·split at he
  ·refine ⟨he.1, ?_⟩
   have he := he.2
   split at he
   ·rw [ZAu] at he ⊢; exact hk _ he
   ·exact he.elim
  ·exact he.elim
 ·split at he
  ·refine ⟨he.1, ?_⟩
   have he := he.2
   split at he
   ·rw [ZAu] at he ⊢; exact hk _ he
   ·exact he.elim
  ·exact he.elim
 ·split at he
  ·exact ⟨he.1, hk _ he.2⟩
  ·exact he.elim
 ·exact he.elim
theorem ZPF {h : Heap} {k wd row col m : Nat} {K K' : List LV -> Prop} (hk : ∀ x, K x -> K' x) (he : ZEO h k wd row col m K) : ZEO h k wd row col m K' := by
 unfold ZEO at he ⊢
 simp only [ZBv] at he ⊢
 split at he
 ·split at he
  ·exact hk _ he
  ·exact he.elim
 ·split at he
  ·refine ⟨he.1, ?_⟩
   have he := he.2
   split at he
   ·rw [ZB1] at he ⊢; exact hk _ he
   ·exact he.elim
  ·exact he.elim
 ·split at he
  ·refine ⟨he.1, ?_⟩
   have he := he.2
   split at he
   ·rw [ZB1] at he ⊢; exact hk _ he
   ·exact he.elim
  ·exact he.elim
 ·exact he.elim
theorem ZQd {h : Heap} {k wd row col m : Nat} {x : AV} {K K' : Heap -> Prop} (hk : ∀ x, K x -> K' x) (he : stAt h k wd row col m x K) : stAt h k wd row col m x K' := by
 unfold stAt at he ⊢
 simp only [ZBv] at he ⊢
 split at he
 ·split at he
  ·split at he
   ·exact hk _ he
   ·exact he.elim
  ·split at he
   ·exact ⟨he.1, hk _ he.2⟩
   ·exact he.elim
  ·split at he
   ·split at he
    ·rw [ZGW] at he ⊢
     exact ⟨he.1, hk _ he.2⟩
    ·exact he.elim
   ·exact he.elim
  ·exact he.elim
 ·exact he.elim
theorem ZLm {h : Heap} {y : Option AV} {K : LV -> Prop} (he : ldX h y K) : ∃ v, K v /\ ∀ K' : LV -> Prop, K' v -> ldX h y K' := by
 unfold ldX ldDp at *
 split at he
 ·split at he
  ·split at he
   ·split at he
    ·obtain ⟨hrow, he⟩ := he
     split at he
     ·rw [ZAu] at he
      exact ⟨_, he, fun K' hk => by simp only [*, ZAu, true_and]⟩
     ·exact ⟨_, he, fun K' hk => by simp only [*, true_and]⟩
    ·exact he.elim
   ·exact he.elim
  ·exact he.elim
 ·split at he
  ·rw [ZAu] at he
   exact ⟨_, he, fun K' hk => by simp only [*, ZAu]⟩
  ·exact he.elim
 ·exact he.elim
theorem ZEn {k : Nat} {q : List (Nat × Nat)} {row : Nat} {f : Nat -> Nat -> DV} : ∀ (m col : Nat) {K' : List LV -> Prop}, K' ((List.range m).map fun j => dpLV k q row f (col + j)) -> ZEe k q row f col m K'
 | 0, col, K', he => he
 | m + 1, col, K', he => by
  simp only [ZEe]
  rw [List.range_succ_eq_map] at he
  simp only [List.map_cons, List.map_map, Nat.add_zero] at he
  have e : ((fun j => dpLV k q row f (col + j)) ∘ Nat.succ) = fun j => dpLV k q row f (col + 1 + j) := by
   funext j; simp only [Function.comp]; congr 1; omega
  rw [e] at he
  split
  ·rename_i x hx
   rw [ZAu]
   exact ZEn m (col + 1) (by simpa only [dpLV, hx] using he)
  ·rename_i wd2 n2 f2 hx
   exact ZEn m (col + 1) (by simpa only [dpLV, hx] using he)
theorem ZJ0 {h : Heap} {y : Option AV} {m : Nat} {K : List LV -> Prop} (he : ldsX h y m K) : ∃ v, K v /\ ∀ K' : List LV -> Prop, K' v -> ldsX h y m K' := by
 unfold ldsX ZO1 at *
 split at he
 ·split at he
  ·split at he
   ·split at he
    ·obtain ⟨hrow, he⟩ := he
     exact ⟨_, ZDE _ _ he, fun K' hk => by simp only [*, true_and]; exact ZEn _ _ hk⟩
    ·exact he.elim
   ·exact he.elim
  ·exact he.elim
 ·split at he
  ·rw [ZBv] at he
   exact ⟨_, he, fun K' hk => by simp only [*, ZBv]⟩
  ·exact he.elim
 ·exact he.elim
theorem ZEB {off : Nat} {y : Option AV} {K : LV -> Prop} (he : faX off y K) : ∃ v, K v /\ ∀ K' : LV -> Prop, K' v -> faX off y K' := by
 unfold faX at *
 split at he
 ·exact ⟨_, he, fun K' hk => hk⟩
 ·exact he.elim
theorem ZGq {wd : Nat} {y z : Option AV} {K : LV -> Prop} (he : ixsX wd y z K) : ∃ v, K v /\ ∀ K' : LV -> Prop, K' v -> ixsX wd y z K' := by
 unfold ixsX at *
 split at he
 ·split at he
  ·split at he
   ·rename_i hb
    obtain ⟨hc, he⟩ := he
    exact ⟨_, he, fun K' hk => ⟨hc, hk⟩⟩
   ·exact he.elim
  ·exact he.elim
 ·split at he
  ·obtain ⟨hc, he⟩ := he
   exact ⟨_, he, fun K' hk => ⟨hc, hk⟩⟩
  ·exact he.elim
 ·exact he.elim
theorem ZGr {sz m : Nat} {y z : Option AV} {K : LV -> Prop} (he : ixaX sz m y z K) : ∃ v, K v /\ ∀ K' : LV -> Prop, K' v -> ixaX sz m y z K' := by
 unfold ixaX at *
 split at he
 ·split at he
  ·obtain ⟨hc, he⟩ := he
   exact ⟨_, he, fun K' hk => ⟨hc, hk⟩⟩
  ·exact he.elim
 ·exact he.elim
theorem ZGs {y : Option AV} {K : Int -> Prop} (he : lenX y K) : ∃ v, K v /\ ∀ K' : Int -> Prop, K' v -> lenX y K' := by
 unfold lenX at *
 split at he
 ·exact ⟨_, he, fun K' hk => hk⟩
 ·exact he.elim
theorem ZGt {wd : Nat} {r : Regs} {y : Option AV} {lo up : Option O} {K : LV -> Prop} (he : slcX wd r y lo up K) : ∃ v, K v /\ ∀ K' : LV -> Prop, K' v -> slcX wd r y lo up K' := by
 unfold slcX at *
 (repeat' split at he) <;> first | exact he.elim | exact ⟨_, he, fun K' hk => by simp only [*]⟩ | exact ⟨_, he.2, fun K' hk => by have := he.1; simp only [*, and_self, true_and]⟩ | skip
theorem ZEC {h : Heap} : ∀ (cs : List LV) {K : List DV -> Heap -> Prop}, ZIO h cs K -> ∃ ds dead, K ds dead /\ ∀ K' : List DV -> Heap -> Prop, K' ds dead -> ZIO h cs K'
 | [], K, he => ⟨[], [], he, fun K' hk => hk⟩
 | x :: cs, K, he => by
  unfold ZIO at he ⊢
  split at he
  ·rename_i heq; cases heq
  ·rename_i v xs heq
   cases heq
   obtain ⟨ds, dead, h1, h2⟩ := ZEC cs he
   exact ⟨_, _, h1, fun K' hk => h2 _ hk⟩
  ·rename_i k wd len xs heq
   cases heq
   split at he
   ·rename_i hk0
    split at he
    ·rename_i hb
     obtain ⟨hlen, he⟩ := he
     obtain ⟨ds, dead, h1, h2⟩ := ZEC cs he
     exact ⟨_, _, h1, fun K' hk => by simp only [hk0, hb]; exact ⟨hlen, h2 _ hk⟩⟩
    ·exact he.elim
   ·exact he.elim
  ·rename_i k wd len xs heq
   cases heq
   split at he
   ·rename_i hk0
    split at he
    ·rename_i hb
     obtain ⟨hlen, he⟩ := he
     obtain ⟨ds, dead, h1, h2⟩ := ZEC cs he
     exact ⟨_, _, h1, fun K' hk => by simp only [hk0, hb]; exact ⟨hlen, h2 _ hk⟩⟩
    ·exact he.elim
   ·exact he.elim
  ·exact he.elim
theorem ZOL {hp : Heap} {wd m nx : Nat} {cs : List LV} {o : Option (List Value)} {a b : Bool} {K : SV -> Heap -> Nat -> Prop} (he : bslX hp wd m nx cs o a b K) : ∃ x u n', K x u n' /\ ∀ K' : SV -> Heap -> Nat -> Prop, K' x u n' -> bslX hp wd m nx cs o a b K' := by
 unfold bslX at *
 split at he
 ·split at he
  ·split at he
   ·obtain ⟨ds, dead, h1, h2⟩ := ZEC cs he
    exact ⟨_, _, _, h1, fun K' hk => h2 _ hk⟩
   ·exact he.elim
  ·exact he.elim
 ·exact he.elim
theorem ZOM {hp : Heap} {wd bytes nx : Nat} {y : Option AV} {k2 : Nat} {q : List (Nat × Nat)} {wd2 row2 len2 : Nat} {K : SV -> Heap -> Nat -> Prop} (he : appF hp wd bytes nx y k2 q wd2 row2 len2 K) : ∃ x u n', K x u n' /\ ∀ K' : SV -> Heap -> Nat -> Prop, K' x u n' -> appF hp wd bytes nx y k2 q wd2 row2 len2 K' := by
 unfold appF at *
 (repeat' split at he) <;> first | exact he.elim | (obtain ⟨hc, he⟩ := he; refine ⟨_, _, _, he, fun K' hk => ?_⟩; clear he; revert hc hk; (try simp only [*]); exact fun hc hk => ⟨hc, hk⟩)
theorem ZON {hp : Heap} {wd bytes nx : Nat} {y z : Option AV} {K : SV -> Heap -> Nat -> Prop} (he : appX hp wd bytes nx y z K) : ∃ x u n', K x u n' /\ ∀ K' : SV -> Heap -> Nat -> Prop, K' x u n' -> appX hp wd bytes nx y z K' := by
 unfold appX at *
 (repeat' split at he) <;> first | exact he.elim | exact ZOM he | (obtain ⟨hc, he⟩ := he; refine ⟨_, _, _, he, fun K' hk => ?_⟩; clear he; revert hc hk; (try simp only [*]); exact fun hc hk => ⟨hc, hk⟩)
theorem ZJ1 {G : Ctx} {i : I} (hi : ZCk i = true) {r : Regs} {h : Heap} {n : Nat} {K : SV -> Heap -> Nat -> Prop} (he : evI (CallD G) (InvD G) (EscD G) i r h n K) :
  ∃ x u n', K x u n' /\ evI (CallP G) (InvP G) (EscR G) i r h n (fun x' u' m => x' = x /\ u' = u /\ m = n') := by
 cases i
 case mov x =>
  simp only [evI] at he ⊢
  (repeat' split at he) <;> first | exact he.elim | exact ⟨_, _, _, he, by simp only [*, if_true, and_self]⟩ | (refine ⟨_, _, _, he.2, ?_⟩; have hc := he.1; clear he; revert hc; simp only [*, if_true, and_self, and_true] <;> exact fun hc => hc) | exact ⟨_, _, _, he, by simp only [*, if_true, and_self]⟩ | (refine ⟨_, _, _, he.2, ?_⟩; have hc := he.1; clear he; revert hc; simp only [*, if_true, and_self, and_true] <;> exact fun hc => hc)
 case pick c a b =>
  simp only [evI] at he ⊢
  split at he
  ·rcases ZFG he with ⟨rfl, hb⟩ | ⟨rfl, hb⟩ <;> clear he <;> split at hb <;> first | exact hb.elim | exact ⟨_, _, _, hb, by simp only [*, and_self]⟩
  ·exact he.elim
 case alloc z =>
  simp only [evI] at he ⊢
  exact ⟨_, _, _, he, rfl, rfl, rfl⟩
 case box x =>
  simp only [evI] at he ⊢
  (repeat' split at he) <;> first | exact he.elim | exact ⟨_, _, _, he, by simp only [*, if_true, and_self]⟩ | (refine ⟨_, _, _, he.2, ?_⟩; have hc := he.1; clear he; revert hc; simp only [*, if_true, and_self, and_true] <;> exact fun hc => hc) | exact ⟨_, _, _, he, by simp only [*, if_true, and_self]⟩ | (refine ⟨_, _, _, he.2, ?_⟩; have hc := he.1; clear he; revert hc; simp only [*, if_true, and_self, and_true] <;> exact fun hc => hc)
 case ld x =>
  simp only [evI] at he ⊢
  split at he
  ·obtain ⟨x, h1, h2⟩ := ZK5 he
   refine ⟨_, _, _, h1, ?_⟩
   simp only [*]
   exact ZQc (fun y hy => by subst hy; simp) h2
  ·obtain ⟨v, h1, h2⟩ := ZLm he; refine ⟨_, _, _, h1, ?_⟩; first | exact h2 _ ⟨rfl, rfl, rfl⟩ | (split <;> first | (exfalso; simp_all; done) | exact h2 _ ⟨rfl, rfl, rfl⟩)
 case lda m x =>
  simp only [evI] at he ⊢
  split at he
  ·obtain ⟨x, h1, h2⟩ := ZLl he
   refine ⟨_, _, _, h1, ?_⟩
   simp only [*]
   exact ZPF (fun y hy => by subst hy; simp) h2
  ·obtain ⟨v, h1, h2⟩ := ZJ0 he; refine ⟨_, _, _, h1, ?_⟩; first | exact h2 _ ⟨rfl, rfl, rfl⟩ | (split <;> first | (exfalso; simp_all; done) | exact h2 _ ⟨rfl, rfl, rfl⟩)
 case sto m a x =>
  simp only [evI] at he ⊢
  split at he
  ·obtain ⟨x, h1, h2⟩ := ZQb he
   refine ⟨_, _, _, h1, ?_⟩
   simp only [*]
   exact ZQd (fun y hy => by subst hy; simp) h2
  ·exact he.elim
 case nck x =>
  simp only [evI] at he ⊢
  (repeat' split at he) <;> first | exact he.elim | exact ⟨_, _, _, he, by simp only [*, if_true, and_self]⟩ | (refine ⟨_, _, _, he.2, ?_⟩; have hc := he.1; clear he; revert hc; simp only [*, if_true, and_self, and_true] <;> exact fun hc => hc) | exact ⟨_, _, _, he, by simp only [*, if_true, and_self]⟩ | (refine ⟨_, _, _, he.2, ?_⟩; have hc := he.1; clear he; revert hc; simp only [*, if_true, and_self, and_true] <;> exact fun hc => hc) | (obtain ⟨v, h1, h2⟩ := ZEB he; refine ⟨_, _, _, h1, ?_⟩; first | exact h2 _ ⟨rfl, rfl, rfl⟩ | (split <;> first | (exfalso; simp_all; done) | exact h2 _ ⟨rfl, rfl, rfl⟩))
 case ar op k x y =>
  simp only [evI] at he ⊢
  (repeat' split at he) <;> first | exact he.elim | (rename_i hq; rw [ZAP] at he; refine ⟨_, _, _, he, ?_⟩; rw [hq]; rw [ZAP]; exact ⟨rfl, rfl, rfl⟩) | (simp only [*, if_true]; first | (simp only [ZAP] at he ⊢; exact ⟨_, _, _, he, rfl, rfl, rfl⟩) | (simp only [ZAK] at he ⊢; exact ⟨_, _, _, he.2, he.1, rfl, rfl, rfl⟩) | (simp only [ZAL] at he ⊢; exact ⟨_, _, _, he.2, he.1, rfl, rfl, rfl⟩) | (simp only [ZAM] at he ⊢; exact ⟨_, _, _, he.2, he.1, rfl, rfl, rfl⟩) | (simp only [ZAN] at he ⊢; exact ⟨_, _, _, he.2, he.1, rfl, rfl, rfl⟩))
 case dv op k x y =>
  simp only [evI] at he ⊢
  (repeat' split at he) <;> first | exact he.elim | (rename_i hq; rw [ZAP] at he; refine ⟨_, _, _, he, ?_⟩; rw [hq]; rw [ZAP]; exact ⟨rfl, rfl, rfl⟩) | (simp only [*, if_true]; first | (simp only [ZAP] at he ⊢; exact ⟨_, _, _, he, rfl, rfl, rfl⟩) | (simp only [ZAK] at he ⊢; exact ⟨_, _, _, he.2, he.1, rfl, rfl, rfl⟩) | (simp only [ZAL] at he ⊢; exact ⟨_, _, _, he.2, he.1, rfl, rfl, rfl⟩) | (simp only [ZAM] at he ⊢; exact ⟨_, _, _, he.2, he.1, rfl, rfl, rfl⟩) | (simp only [ZAN] at he ⊢; exact ⟨_, _, _, he.2, he.1, rfl, rfl, rfl⟩))
 case bt op k x y =>
  simp only [evI] at he ⊢
  (repeat' split at he) <;> first | exact he.elim | exact ⟨_, _, _, he, by simp only [*, if_true, and_self]⟩ | (refine ⟨_, _, _, he.2, ?_⟩; have hc := he.1; clear he; revert hc; simp only [*, if_true, and_self, and_true] <;> exact fun hc => hc) | exact ⟨_, _, _, he, by simp only [*, if_true, and_self]⟩ | (refine ⟨_, _, _, he.2, ?_⟩; have hc := he.1; clear he; revert hc; simp only [*, if_true, and_self, and_true] <;> exact fun hc => hc)
 case sh op k x y =>
  simp only [evI] at he ⊢
  (repeat' split at he) <;> first | exact he.elim | (rename_i hq; rw [ZAP] at he; refine ⟨_, _, _, he, ?_⟩; rw [hq]; rw [ZAP]; exact ⟨rfl, rfl, rfl⟩) | (simp only [*, if_true]; first | (simp only [ZAP] at he ⊢; exact ⟨_, _, _, he, rfl, rfl, rfl⟩) | (simp only [ZAK] at he ⊢; exact ⟨_, _, _, he.2, he.1, rfl, rfl, rfl⟩) | (simp only [ZAL] at he ⊢; exact ⟨_, _, _, he.2, he.1, rfl, rfl, rfl⟩) | (simp only [ZAM] at he ⊢; exact ⟨_, _, _, he.2, he.1, rfl, rfl, rfl⟩) | (simp only [ZAN] at he ⊢; exact ⟨_, _, _, he.2, he.1, rfl, rfl, rfl⟩))
 case cmp op k x y =>
  simp only [evI] at he ⊢
  (repeat' split at he) <;> first | exact he.elim | exact ⟨_, _, _, he, by simp only [*, if_true, and_self]⟩ | (refine ⟨_, _, _, he.2, ?_⟩; have hc := he.1; clear he; revert hc; simp only [*, if_true, and_self, and_true] <;> exact fun hc => hc) | exact ⟨_, _, _, he, by simp only [*, if_true, and_self]⟩ | (refine ⟨_, _, _, he.2, ?_⟩; have hc := he.1; clear he; revert hc; simp only [*, if_true, and_self, and_true] <;> exact fun hc => hc)
 case eq c neg x y =>
  simp only [evI] at he ⊢
  (repeat' split at he) <;> first | exact he.elim | exact ⟨_, _, _, he, by simp only [*, if_true, and_self]⟩ | (refine ⟨_, _, _, he.2, ?_⟩; have hc := he.1; clear he; revert hc; simp only [*, if_true, and_self, and_true] <;> exact fun hc => hc) | exact ⟨_, _, _, he, by simp only [*, if_true, and_self]⟩ | (refine ⟨_, _, _, he.2, ?_⟩; have hc := he.1; clear he; revert hc; simp only [*, if_true, and_self, and_true] <;> exact fun hc => hc)
 case eqa cs neg x y =>
  simp only [evI] at he ⊢
  (repeat' split at he) <;> first | exact he.elim | exact ⟨_, _, _, he, by simp only [*, if_true, and_self]⟩ | (refine ⟨_, _, _, he.2, ?_⟩; have hc := he.1; clear he; revert hc; simp only [*, if_true, and_self, and_true] <;> exact fun hc => hc) | exact ⟨_, _, _, he, by simp only [*, if_true, and_self]⟩ | (refine ⟨_, _, _, he.2, ?_⟩; have hc := he.1; clear he; revert hc; simp only [*, if_true, and_self, and_true] <;> exact fun hc => hc)
 case cat x y =>
  simp only [evI] at he ⊢
  (repeat' split at he) <;> first | exact he.elim | exact ⟨_, _, _, he, by simp only [*, if_true, and_self]⟩ | (refine ⟨_, _, _, he.2, ?_⟩; have hc := he.1; clear he; revert hc; simp only [*, if_true, and_self, and_true] <;> exact fun hc => hc) | exact ⟨_, _, _, he, by simp only [*, if_true, and_self]⟩ | (refine ⟨_, _, _, he.2, ?_⟩; have hc := he.1; clear he; revert hc; simp only [*, if_true, and_self, and_true] <;> exact fun hc => hc)
 case not x =>
  simp only [evI] at he ⊢
  (repeat' split at he) <;> first | exact he.elim | exact ⟨_, _, _, he, by simp only [*, if_true, and_self]⟩ | (refine ⟨_, _, _, he.2, ?_⟩; have hc := he.1; clear he; revert hc; simp only [*, if_true, and_self, and_true] <;> exact fun hc => hc) | exact ⟨_, _, _, he, by simp only [*, if_true, and_self]⟩ | (refine ⟨_, _, _, he.2, ?_⟩; have hc := he.1; clear he; revert hc; simp only [*, if_true, and_self, and_true] <;> exact fun hc => hc)
 case neg k x =>
  simp only [evI] at he ⊢
  (repeat' split at he) <;> first | exact he.elim | (rename_i hq; rw [ZAP] at he; refine ⟨_, _, _, he, ?_⟩; rw [hq]; rw [ZAP]; exact ⟨rfl, rfl, rfl⟩) | (simp only [*, if_true]; first | (simp only [ZAP] at he ⊢; exact ⟨_, _, _, he, rfl, rfl, rfl⟩) | (simp only [ZAK] at he ⊢; exact ⟨_, _, _, he.2, he.1, rfl, rfl, rfl⟩) | (simp only [ZAL] at he ⊢; exact ⟨_, _, _, he.2, he.1, rfl, rfl, rfl⟩) | (simp only [ZAM] at he ⊢; exact ⟨_, _, _, he.2, he.1, rfl, rfl, rfl⟩) | (simp only [ZAN] at he ⊢; exact ⟨_, _, _, he.2, he.1, rfl, rfl, rfl⟩))
 case conv k x =>
  simp only [evI] at he ⊢
  split at he
  ·rename_i hq
   rw [ZAP] at he
   refine ⟨_, _, _, he, ?_⟩
   rw [ZAP]
   simp
  ·exact he.elim
 case fa off x =>
  simp only [evI] at he ⊢
  (repeat' split at he) <;> first | exact he.elim | exact ⟨_, _, _, he, by simp only [*, if_true, and_self]⟩ | (refine ⟨_, _, _, he.2, ?_⟩; have hc := he.1; clear he; revert hc; simp only [*, if_true, and_self, and_true] <;> exact fun hc => hc) | exact ⟨_, _, _, he, by simp only [*, if_true, and_self]⟩ | (refine ⟨_, _, _, he.2, ?_⟩; have hc := he.1; clear he; revert hc; simp only [*, if_true, and_self, and_true] <;> exact fun hc => hc) | (obtain ⟨v, h1, h2⟩ := ZEB he; refine ⟨_, _, _, h1, ?_⟩; first | exact h2 _ ⟨rfl, rfl, rfl⟩ | (split <;> first | (exfalso; simp_all; done) | exact h2 _ ⟨rfl, rfl, rfl⟩))
 case ixs wd x i =>
  simp only [evI] at he ⊢
  (repeat' split at he) <;> first | exact he.elim | exact ⟨_, _, _, he, by simp only [*, if_true, and_self]⟩ | (refine ⟨_, _, _, he.2, ?_⟩; have hc := he.1; clear he; revert hc; simp only [*, if_true, and_self, and_true] <;> exact fun hc => hc) | exact ⟨_, _, _, he, by simp only [*, if_true, and_self]⟩ | (refine ⟨_, _, _, he.2, ?_⟩; have hc := he.1; clear he; revert hc; simp only [*, if_true, and_self, and_true] <;> exact fun hc => hc) | (obtain ⟨v, h1, h2⟩ := ZGq he; refine ⟨_, _, _, h1, ?_⟩; first | exact h2 _ ⟨rfl, rfl, rfl⟩ | (split <;> first | (exfalso; simp_all; done) | exact h2 _ ⟨rfl, rfl, rfl⟩))
 case ixa sz m x i =>
  simp only [evI] at he ⊢
  (repeat' split at he) <;> first | exact he.elim | exact ⟨_, _, _, he, by simp only [*, if_true, and_self]⟩ | (refine ⟨_, _, _, he.2, ?_⟩; have hc := he.1; clear he; revert hc; simp only [*, if_true, and_self, and_true] <;> exact fun hc => hc) | exact ⟨_, _, _, he, by simp only [*, if_true, and_self]⟩ | (refine ⟨_, _, _, he.2, ?_⟩; have hc := he.1; clear he; revert hc; simp only [*, if_true, and_self, and_true] <;> exact fun hc => hc) | (obtain ⟨v, h1, h2⟩ := ZGr he; refine ⟨_, _, _, h1, ?_⟩; first | exact h2 _ ⟨rfl, rfl, rfl⟩ | (split <;> first | (exfalso; simp_all; done) | exact h2 _ ⟨rfl, rfl, rfl⟩))
 case ixt x i =>
  simp only [evI] at he ⊢
  split at he
  ·obtain ⟨h1, h2⟩ := he
   exact ⟨_, _, _, h2, by simp only [*, and_self]⟩
  ·exact he.elim
 case fld off x =>
  simp only [evI] at he ⊢
  (repeat' split at he) <;> first | exact he.elim | exact ⟨_, _, _, he, by simp only [*, if_true, and_self]⟩ | (refine ⟨_, _, _, he.2, ?_⟩; have hc := he.1; clear he; revert hc; simp only [*, if_true, and_self, and_true] <;> exact fun hc => hc) | exact ⟨_, _, _, he, by simp only [*, if_true, and_self]⟩ | (refine ⟨_, _, _, he.2, ?_⟩; have hc := he.1; clear he; revert hc; simp only [*, if_true, and_self, and_true] <;> exact fun hc => hc)
 case flda off m x =>
  simp only [evI] at he ⊢
  (repeat' split at he) <;> first | exact he.elim | exact ⟨_, _, _, he, by simp only [*, if_true, and_self]⟩ | (refine ⟨_, _, _, he.2, ?_⟩; have hc := he.1; clear he; revert hc; simp only [*, if_true, and_self, and_true] <;> exact fun hc => hc) | exact ⟨_, _, _, he, by simp only [*, if_true, and_self]⟩ | (refine ⟨_, _, _, he.2, ?_⟩; have hc := he.1; clear he; revert hc; simp only [*, if_true, and_self, and_true] <;> exact fun hc => hc)
 case ext j x =>
  simp only [evI] at he ⊢
  (repeat' split at he) <;> first | exact he.elim | exact ⟨_, _, _, he, by simp only [*, if_true, and_self]⟩ | (refine ⟨_, _, _, he.2, ?_⟩; have hc := he.1; clear he; revert hc; simp only [*, if_true, and_self, and_true] <;> exact fun hc => hc) | exact ⟨_, _, _, he, by simp only [*, if_true, and_self]⟩ | (refine ⟨_, _, _, he.2, ?_⟩; have hc := he.1; clear he; revert hc; simp only [*, if_true, and_self, and_true] <;> exact fun hc => hc)
 case bld z parts =>
  simp only [evI, ZBv] at he ⊢
  (repeat' split at he) <;> first | exact he.elim | exact ⟨_, _, _, he, by simp only [*, if_true, and_self]⟩ | (refine ⟨_, _, _, he.2, ?_⟩; have hc := he.1; clear he; revert hc; simp only [*, if_true, and_self, and_true] <;> exact fun hc => hc) | exact ⟨_, _, _, he, by simp only [*, if_true, and_self]⟩ | (refine ⟨_, _, _, he.2, ?_⟩; have hc := he.1; clear he; revert hc; simp only [*, if_true, and_self, and_true] <;> exact fun hc => hc)
 case bsl wd m z parts =>
  simp only [evI] at he ⊢
  (repeat' split at he) <;> first | exact he.elim | exact ⟨_, _, _, he, by simp only [*, if_true, and_self]⟩ | (refine ⟨_, _, _, he.2, ?_⟩; have hc := he.1; clear he; revert hc; simp only [*, if_true, and_self, and_true] <;> exact fun hc => hc) | exact ⟨_, _, _, he, by simp only [*, if_true, and_self]⟩ | (refine ⟨_, _, _, he.2, ?_⟩; have hc := he.1; clear he; revert hc; simp only [*, if_true, and_self, and_true] <;> exact fun hc => hc) | (obtain ⟨x, u, n', h1, h2⟩ := ZOL he; refine ⟨_, _, _, h1, ?_⟩; (try simp only [*]); first | exact h2 _ ⟨rfl, rfl, rfl⟩ | (split <;> first | (exfalso; simp_all; done) | exact h2 _ ⟨rfl, rfl, rfl⟩))
 case mks wd bytes z l c =>
  simp only [evI] at he ⊢
  (repeat' split at he) <;> first | exact he.elim | exact ⟨_, _, _, he, by simp only [*, if_true, and_self]⟩ | (refine ⟨_, _, _, he.2, ?_⟩; have hc := he.1; clear he; revert hc; simp only [*, if_true, and_self, and_true] <;> exact fun hc => hc) | exact ⟨_, _, _, he, by simp only [*, if_true, and_self]⟩ | (refine ⟨_, _, _, he.2, ?_⟩; have hc := he.1; clear he; revert hc; simp only [*, if_true, and_self, and_true] <;> exact fun hc => hc)
 case len x =>
  simp only [evI] at he ⊢
  (repeat' split at he) <;> first | exact he.elim | exact ⟨_, _, _, he, by simp only [*, if_true, and_self]⟩ | (refine ⟨_, _, _, he.2, ?_⟩; have hc := he.1; clear he; revert hc; simp only [*, if_true, and_self, and_true] <;> exact fun hc => hc) | exact ⟨_, _, _, he, by simp only [*, if_true, and_self]⟩ | (refine ⟨_, _, _, he.2, ?_⟩; have hc := he.1; clear he; revert hc; simp only [*, if_true, and_self, and_true] <;> exact fun hc => hc) | (obtain ⟨v, h1, h2⟩ := ZGs he; refine ⟨_, _, _, h1, ?_⟩; first | exact h2 _ ⟨rfl, rfl, rfl⟩ | (split <;> first | (exfalso; simp_all; done) | exact h2 _ ⟨rfl, rfl, rfl⟩))
 case lens x =>
  simp only [evI] at he ⊢
  (repeat' split at he) <;> first | exact he.elim | exact ⟨_, _, _, he, by simp only [*, if_true, and_self]⟩ | (refine ⟨_, _, _, he.2, ?_⟩; have hc := he.1; clear he; revert hc; simp only [*, if_true, and_self, and_true] <;> exact fun hc => hc) | exact ⟨_, _, _, he, by simp only [*, if_true, and_self]⟩ | (refine ⟨_, _, _, he.2, ?_⟩; have hc := he.1; clear he; revert hc; simp only [*, if_true, and_self, and_true] <;> exact fun hc => hc)
 case mx k x y =>
  simp only [evI] at he ⊢
  (repeat' split at he) <;> first | exact he.elim | exact ⟨_, _, _, he, by simp only [*, if_true, and_self]⟩ | (refine ⟨_, _, _, he.2, ?_⟩; have hc := he.1; clear he; revert hc; simp only [*, if_true, and_self, and_true] <;> exact fun hc => hc) | exact ⟨_, _, _, he, by simp only [*, if_true, and_self]⟩ | (refine ⟨_, _, _, he.2, ?_⟩; have hc := he.1; clear he; revert hc; simp only [*, if_true, and_self, and_true] <;> exact fun hc => hc)
 case mn k x y =>
  simp only [evI] at he ⊢
  (repeat' split at he) <;> first | exact he.elim | exact ⟨_, _, _, he, by simp only [*, if_true, and_self]⟩ | (refine ⟨_, _, _, he.2, ?_⟩; have hc := he.1; clear he; revert hc; simp only [*, if_true, and_self, and_true] <;> exact fun hc => hc) | exact ⟨_, _, _, he, by simp only [*, if_true, and_self]⟩ | (refine ⟨_, _, _, he.2, ?_⟩; have hc := he.1; clear he; revert hc; simp only [*, if_true, and_self, and_true] <;> exact fun hc => hc)
 case slc wd x lo up =>
  cases lo <;> cases up <;> simp only [evI] at he ⊢ <;> (repeat' split at he) <;> first | exact he.elim | exact ⟨_, _, _, he, by simp only [*, and_self]⟩ | exact ⟨_, _, _, he.2, by simp only [*, and_self]⟩ | (obtain ⟨v, h1, h2⟩ := ZGt he; refine ⟨_, _, _, h1, ?_⟩; first | exact h2 _ ⟨rfl, rfl, rfl⟩ | (split <;> first | (exfalso; simp_all; done) | exact h2 _ ⟨rfl, rfl, rfl⟩))
 case slt x lo up =>
  cases lo <;> cases up <;> simp only [evI] at he ⊢ <;> (repeat' split at he) <;> first | exact he.elim | exact ⟨_, _, _, he, by simp only [*, and_self]⟩ | exact ⟨_, _, _, he.2, by simp only [*, and_self]⟩
 case app wd bytes s x =>
  simp only [evI] at he ⊢
  (repeat' split at he) <;> first | exact he.elim | exact ⟨_, _, _, he, by simp only [*, if_true, and_self]⟩ | (refine ⟨_, _, _, he.2, ?_⟩; have hc := he.1; clear he; revert hc; simp only [*, if_true, and_self, and_true] <;> exact fun hc => hc) | exact ⟨_, _, _, he, by simp only [*, if_true, and_self]⟩ | (refine ⟨_, _, _, he.2, ?_⟩; have hc := he.1; clear he; revert hc; simp only [*, if_true, and_self, and_true] <;> exact fun hc => hc) | (obtain ⟨x, u, n', h1, h2⟩ := ZON he; refine ⟨_, _, _, h1, ?_⟩; first | exact h2 _ ⟨rfl, rfl, rfl⟩ | (split <;> first | (exfalso; simp_all; done) | exact h2 _ ⟨rfl, rfl, rfl⟩))
 case call f args =>
  simp only [evI] at he ⊢
  split at he
  ·simp only [ZE6, ZCQ, ZBU] at he ⊢
   rw [ZFF] at he
   obtain ⟨x, u, n', h1, h2⟩ := he
   refine ⟨x, u, n', h2, ?_⟩
   simp_all only
  ·exact he.elim
 case callv fv args =>
  simp only [evI] at he ⊢
  split at he
  ·simp only [ZE6, ZCQ, ZBU] at he ⊢
   rw [ZFF] at he
   obtain ⟨x, u, n', h1, h2⟩ := he
   refine ⟨x, u, n', h2, ?_⟩
   simp_all only
  ·simp only [ZE6, ZCQ, ZBU] at he ⊢
   rw [ZFF] at he
   obtain ⟨x, u, n', h1, h2⟩ := he
   refine ⟨x, u, n', h2, ?_⟩
   simp_all only
  ·exact he.elim
 case inv recv name args =>
  simp only [evI] at he ⊢
  split at he
  ·simp only [ZE6, ZCQ, ZBU] at he ⊢
   obtain ⟨x, u, n', h1, h2⟩ := he
   refine ⟨x, u, n', h2, ?_⟩
   simp_all only
  ·exact he.elim
 case mki t x =>
  simp only [evI] at he ⊢
  (repeat' split at he) <;> first | exact he.elim | exact ⟨_, _, _, he, by simp only [*, if_true, and_self]⟩ | (refine ⟨_, _, _, he.2, ?_⟩; have hc := he.1; clear he; revert hc; simp only [*, if_true, and_self, and_true] <;> exact fun hc => hc) | exact ⟨_, _, _, he, by simp only [*, if_true, and_self]⟩ | (refine ⟨_, _, _, he.2, ?_⟩; have hc := he.1; clear he; revert hc; simp only [*, if_true, and_self, and_true] <;> exact fun hc => hc)
 case mkf f caps =>
  simp only [evI] at he ⊢
  (repeat' split at he) <;> first | exact he.elim | exact ⟨_, _, _, he, by simp only [*, if_true, and_self]⟩ | (refine ⟨_, _, _, he.2, ?_⟩; have hc := he.1; clear he; revert hc; simp only [*, if_true, and_self, and_true] <;> exact fun hc => hc) | exact ⟨_, _, _, he, by simp only [*, if_true, and_self]⟩ | (refine ⟨_, _, _, he.2, ?_⟩; have hc := he.1; clear he; revert hc; simp only [*, if_true, and_self, and_true] <;> exact fun hc => hc)
 case mp q qe op =>
  cases op <;> simp only [evI, evM] at he ⊢ <;> (repeat' first | (obtain ⟨nn, _, _, hK, hq⟩ := ZD9 he; refine ⟨_, _, _, hK, ?_⟩; clear he; simp only [*, if_true]; exact hq _ (by first | exact ⟨rfl, rfl, rfl⟩ | simp)) | split at he) <;> first | exact he.elim | exact he.elim | exact ⟨_, _, _, he, by simp only [*, if_true, and_self]⟩ | exact ⟨_, _, _, he.2, by simp only [*, if_true, and_self, he.1]⟩ | (refine ⟨_, _, _, he.2, ?_⟩; have hc := he.1; clear he; simp only [*, if_true, and_self])
 case esc op =>
  simp only [evI] at he ⊢
  obtain ⟨x, u, n', h1, h2⟩ := he
  exact ⟨x, u, n', h2, h1⟩
theorem ZPY {G : Ctx} {i : I} (hi : ZCk i = true) (hp : ZCH i = true) {r : Regs} {h : Heap} {n : Nat} {x : SV} {u : Heap} {n' : Nat} (he : evI (CallP G) (InvP G) (EscR G) i r h n (fun x' u' m => x' = x /\ u' = u /\ m = n')) :
  u = [] /\ n' = n := by
 cases i
 case mov x =>
  simp only [evI] at he
  (repeat' split at he) <;> first | exact he.elim | exact ⟨he.2.1.symm, he.2.2.symm⟩ | exact ⟨he.2.2.1.symm, he.2.2.2.symm⟩ | (rw [ZAP] at he; exact ⟨he.2.1.symm, he.2.2.symm⟩) | (rw [ZAK] at he; exact ⟨he.2.2.1.symm, he.2.2.2.symm⟩) | (rw [ZAL] at he; exact ⟨he.2.2.1.symm, he.2.2.2.symm⟩) | (rw [ZAM] at he; exact ⟨he.2.2.1.symm, he.2.2.2.symm⟩) | (rw [ZAN] at he; exact ⟨he.2.2.1.symm, he.2.2.2.symm⟩)
 case pick c a b =>
  simp only [evI] at he
  split at he
  ·rcases ZFG he with ⟨_, hb⟩ | ⟨_, hb⟩ <;> split at hb <;> first | exact hb.elim | exact ⟨hb.2.1.symm, hb.2.2.symm⟩
  ·exact he.elim
 case alloc z =>
  simp [ZCH] at hp
 case box x =>
  simp [ZCH] at hp
 case ld x =>
  simp only [evI] at he
  split at he
  ·obtain ⟨x, h1, h2⟩ := ZK5 he
   exact ⟨h1.2.1.symm, h1.2.2.symm⟩
  ·obtain ⟨v, h1, h2⟩ := ZLm he; exact ⟨h1.2.1.symm, h1.2.2.symm⟩
 case lda m x =>
  simp only [evI] at he
  split at he
  ·obtain ⟨x, h1, h2⟩ := ZLl he
   exact ⟨h1.2.1.symm, h1.2.2.symm⟩
  ·obtain ⟨v, h1, h2⟩ := ZJ0 he; exact ⟨h1.2.1.symm, h1.2.2.symm⟩
 case sto m a x =>
  simp [ZCH] at hp
 case nck x =>
  simp only [evI] at he
  (repeat' split at he) <;> first | exact he.elim | exact ⟨he.2.1.symm, he.2.2.symm⟩ | exact ⟨he.2.2.1.symm, he.2.2.2.symm⟩ | (rw [ZAP] at he; exact ⟨he.2.1.symm, he.2.2.symm⟩) | (rw [ZAK] at he; exact ⟨he.2.2.1.symm, he.2.2.2.symm⟩) | (rw [ZAL] at he; exact ⟨he.2.2.1.symm, he.2.2.2.symm⟩) | (rw [ZAM] at he; exact ⟨he.2.2.1.symm, he.2.2.2.symm⟩) | (rw [ZAN] at he; exact ⟨he.2.2.1.symm, he.2.2.2.symm⟩) | (obtain ⟨v, h1, h2⟩ := ZEB he; exact ⟨h1.2.1.symm, h1.2.2.symm⟩)
 case ar op k x y =>
  simp only [evI] at he
  (repeat' split at he) <;> first | exact he.elim | exact ⟨he.2.1.symm, he.2.2.symm⟩ | exact ⟨he.2.2.1.symm, he.2.2.2.symm⟩ | (rw [ZAP] at he; exact ⟨he.2.1.symm, he.2.2.symm⟩) | (rw [ZAK] at he; exact ⟨he.2.2.1.symm, he.2.2.2.symm⟩) | (rw [ZAL] at he; exact ⟨he.2.2.1.symm, he.2.2.2.symm⟩) | (rw [ZAM] at he; exact ⟨he.2.2.1.symm, he.2.2.2.symm⟩) | (rw [ZAN] at he; exact ⟨he.2.2.1.symm, he.2.2.2.symm⟩)
 case dv op k x y =>
  simp only [evI] at he
  (repeat' split at he) <;> first | exact he.elim | exact ⟨he.2.1.symm, he.2.2.symm⟩ | exact ⟨he.2.2.1.symm, he.2.2.2.symm⟩ | (rw [ZAP] at he; exact ⟨he.2.1.symm, he.2.2.symm⟩) | (rw [ZAK] at he; exact ⟨he.2.2.1.symm, he.2.2.2.symm⟩) | (rw [ZAL] at he; exact ⟨he.2.2.1.symm, he.2.2.2.symm⟩) | (rw [ZAM] at he; exact ⟨he.2.2.1.symm, he.2.2.2.symm⟩) | (rw [ZAN] at he; exact ⟨he.2.2.1.symm, he.2.2.2.symm⟩)
 case bt op k x y =>
  simp only [evI] at he
  (repeat' split at he) <;> first | exact he.elim | exact ⟨he.2.1.symm, he.2.2.symm⟩ | exact ⟨he.2.2.1.symm, he.2.2.2.symm⟩ | (rw [ZAP] at he; exact ⟨he.2.1.symm, he.2.2.symm⟩) | (rw [ZAK] at he; exact ⟨he.2.2.1.symm, he.2.2.2.symm⟩) | (rw [ZAL] at he; exact ⟨he.2.2.1.symm, he.2.2.2.symm⟩) | (rw [ZAM] at he; exact ⟨he.2.2.1.symm, he.2.2.2.symm⟩) | (rw [ZAN] at he; exact ⟨he.2.2.1.symm, he.2.2.2.symm⟩)
 case sh op k x y =>
  simp only [evI] at he
  (repeat' split at he) <;> first | exact he.elim | exact ⟨he.2.1.symm, he.2.2.symm⟩ | exact ⟨he.2.2.1.symm, he.2.2.2.symm⟩ | (rw [ZAP] at he; exact ⟨he.2.1.symm, he.2.2.symm⟩) | (rw [ZAK] at he; exact ⟨he.2.2.1.symm, he.2.2.2.symm⟩) | (rw [ZAL] at he; exact ⟨he.2.2.1.symm, he.2.2.2.symm⟩) | (rw [ZAM] at he; exact ⟨he.2.2.1.symm, he.2.2.2.symm⟩) | (rw [ZAN] at he; exact ⟨he.2.2.1.symm, he.2.2.2.symm⟩)
 case cmp op k x y =>
  simp only [evI] at he
  (repeat' split at he) <;> first | exact he.elim | exact ⟨he.2.1.symm, he.2.2.symm⟩ | exact ⟨he.2.2.1.symm, he.2.2.2.symm⟩ | (rw [ZAP] at he; exact ⟨he.2.1.symm, he.2.2.symm⟩) | (rw [ZAK] at he; exact ⟨he.2.2.1.symm, he.2.2.2.symm⟩) | (rw [ZAL] at he; exact ⟨he.2.2.1.symm, he.2.2.2.symm⟩) | (rw [ZAM] at he; exact ⟨he.2.2.1.symm, he.2.2.2.symm⟩) | (rw [ZAN] at he; exact ⟨he.2.2.1.symm, he.2.2.2.symm⟩)
 case eq c neg x y =>
  simp only [evI] at he
  (repeat' split at he) <;> first | exact he.elim | exact ⟨he.2.1.symm, he.2.2.symm⟩ | exact ⟨he.2.2.1.symm, he.2.2.2.symm⟩ | (rw [ZAP] at he; exact ⟨he.2.1.symm, he.2.2.symm⟩) | (rw [ZAK] at he; exact ⟨he.2.2.1.symm, he.2.2.2.symm⟩) | (rw [ZAL] at he; exact ⟨he.2.2.1.symm, he.2.2.2.symm⟩) | (rw [ZAM] at he; exact ⟨he.2.2.1.symm, he.2.2.2.symm⟩) | (rw [ZAN] at he; exact ⟨he.2.2.1.symm, he.2.2.2.symm⟩)
 case eqa cs neg x y =>
  simp only [evI] at he
  (repeat' split at he) <;> first | exact he.elim | exact ⟨he.2.1.symm, he.2.2.symm⟩ | exact ⟨he.2.2.1.symm, he.2.2.2.symm⟩ | (rw [ZAP] at he; exact ⟨he.2.1.symm, he.2.2.symm⟩) | (rw [ZAK] at he; exact ⟨he.2.2.1.symm, he.2.2.2.symm⟩) | (rw [ZAL] at he; exact ⟨he.2.2.1.symm, he.2.2.2.symm⟩) | (rw [ZAM] at he; exact ⟨he.2.2.1.symm, he.2.2.2.symm⟩) | (rw [ZAN] at he; exact ⟨he.2.2.1.symm, he.2.2.2.symm⟩)
 case cat x y =>
  simp only [evI] at he
  (repeat' split at he) <;> first | exact he.elim | exact ⟨he.2.1.symm, he.2.2.symm⟩ | exact ⟨he.2.2.1.symm, he.2.2.2.symm⟩ | (rw [ZAP] at he; exact ⟨he.2.1.symm, he.2.2.symm⟩) | (rw [ZAK] at he; exact ⟨he.2.2.1.symm, he.2.2.2.symm⟩) | (rw [ZAL] at he; exact ⟨he.2.2.1.symm, he.2.2.2.symm⟩) | (rw [ZAM] at he; exact ⟨he.2.2.1.symm, he.2.2.2.symm⟩) | (rw [ZAN] at he; exact ⟨he.2.2.1.symm, he.2.2.2.symm⟩)
 case not x =>
  simp only [evI] at he
  (repeat' split at he) <;> first | exact he.elim | exact ⟨he.2.1.symm, he.2.2.symm⟩ | exact ⟨he.2.2.1.symm, he.2.2.2.symm⟩ | (rw [ZAP] at he; exact ⟨he.2.1.symm, he.2.2.symm⟩) | (rw [ZAK] at he; exact ⟨he.2.2.1.symm, he.2.2.2.symm⟩) | (rw [ZAL] at he; exact ⟨he.2.2.1.symm, he.2.2.2.symm⟩) | (rw [ZAM] at he; exact ⟨he.2.2.1.symm, he.2.2.2.symm⟩) | (rw [ZAN] at he; exact ⟨he.2.2.1.symm, he.2.2.2.symm⟩)
 case neg k x =>
  simp only [evI] at he
  (repeat' split at he) <;> first | exact he.elim | exact ⟨he.2.1.symm, he.2.2.symm⟩ | exact ⟨he.2.2.1.symm, he.2.2.2.symm⟩ | (rw [ZAP] at he; exact ⟨he.2.1.symm, he.2.2.symm⟩) | (rw [ZAK] at he; exact ⟨he.2.2.1.symm, he.2.2.2.symm⟩) | (rw [ZAL] at he; exact ⟨he.2.2.1.symm, he.2.2.2.symm⟩) | (rw [ZAM] at he; exact ⟨he.2.2.1.symm, he.2.2.2.symm⟩) | (rw [ZAN] at he; exact ⟨he.2.2.1.symm, he.2.2.2.symm⟩)
 case conv k x =>
  simp only [evI] at he
  (repeat' split at he) <;> first | exact he.elim | exact ⟨he.2.1.symm, he.2.2.symm⟩ | exact ⟨he.2.2.1.symm, he.2.2.2.symm⟩ | (rw [ZAP] at he; exact ⟨he.2.1.symm, he.2.2.symm⟩) | (rw [ZAK] at he; exact ⟨he.2.2.1.symm, he.2.2.2.symm⟩) | (rw [ZAL] at he; exact ⟨he.2.2.1.symm, he.2.2.2.symm⟩) | (rw [ZAM] at he; exact ⟨he.2.2.1.symm, he.2.2.2.symm⟩) | (rw [ZAN] at he; exact ⟨he.2.2.1.symm, he.2.2.2.symm⟩)
 case fa off x =>
  simp only [evI] at he
  (repeat' split at he) <;> first | exact he.elim | exact ⟨he.2.1.symm, he.2.2.symm⟩ | exact ⟨he.2.2.1.symm, he.2.2.2.symm⟩ | (rw [ZAP] at he; exact ⟨he.2.1.symm, he.2.2.symm⟩) | (rw [ZAK] at he; exact ⟨he.2.2.1.symm, he.2.2.2.symm⟩) | (rw [ZAL] at he; exact ⟨he.2.2.1.symm, he.2.2.2.symm⟩) | (rw [ZAM] at he; exact ⟨he.2.2.1.symm, he.2.2.2.symm⟩) | (rw [ZAN] at he; exact ⟨he.2.2.1.symm, he.2.2.2.symm⟩) | (obtain ⟨v, h1, h2⟩ := ZEB he; exact ⟨h1.2.1.symm, h1.2.2.symm⟩)
 case ixs wd x i =>
  simp only [evI] at he
  (repeat' split at he) <;> first | exact he.elim | exact ⟨he.2.1.symm, he.2.2.symm⟩ | exact ⟨he.2.2.1.symm, he.2.2.2.symm⟩ | (rw [ZAP] at he; exact ⟨he.2.1.symm, he.2.2.symm⟩) | (rw [ZAK] at he; exact ⟨he.2.2.1.symm, he.2.2.2.symm⟩) | (rw [ZAL] at he; exact ⟨he.2.2.1.symm, he.2.2.2.symm⟩) | (rw [ZAM] at he; exact ⟨he.2.2.1.symm, he.2.2.2.symm⟩) | (rw [ZAN] at he; exact ⟨he.2.2.1.symm, he.2.2.2.symm⟩) | (obtain ⟨v, h1, h2⟩ := ZGq he; exact ⟨h1.2.1.symm, h1.2.2.symm⟩)
 case ixa sz m x i =>
  simp only [evI] at he
  (repeat' split at he) <;> first | exact he.elim | exact ⟨he.2.1.symm, he.2.2.symm⟩ | exact ⟨he.2.2.1.symm, he.2.2.2.symm⟩ | (rw [ZAP] at he; exact ⟨he.2.1.symm, he.2.2.symm⟩) | (rw [ZAK] at he; exact ⟨he.2.2.1.symm, he.2.2.2.symm⟩) | (rw [ZAL] at he; exact ⟨he.2.2.1.symm, he.2.2.2.symm⟩) | (rw [ZAM] at he; exact ⟨he.2.2.1.symm, he.2.2.2.symm⟩) | (rw [ZAN] at he; exact ⟨he.2.2.1.symm, he.2.2.2.symm⟩) | (obtain ⟨v, h1, h2⟩ := ZGr he; exact ⟨h1.2.1.symm, h1.2.2.symm⟩)
 case ixt x i =>
  simp only [evI] at he
  split at he
  ·exact ⟨he.2.2.1.symm, he.2.2.2.symm⟩
  ·exact he.elim
 case fld off x =>
  simp only [evI] at he
  (repeat' split at he) <;> first | exact he.elim | exact ⟨he.2.1.symm, he.2.2.symm⟩ | exact ⟨he.2.2.1.symm, he.2.2.2.symm⟩ | (rw [ZAP] at he; exact ⟨he.2.1.symm, he.2.2.symm⟩) | (rw [ZAK] at he; exact ⟨he.2.2.1.symm, he.2.2.2.symm⟩) | (rw [ZAL] at he; exact ⟨he.2.2.1.symm, he.2.2.2.symm⟩) | (rw [ZAM] at he; exact ⟨he.2.2.1.symm, he.2.2.2.symm⟩) | (rw [ZAN] at he; exact ⟨he.2.2.1.symm, he.2.2.2.symm⟩)
 case flda off m x =>
  simp only [evI] at he
  (repeat' split at he) <;> first | exact he.elim | exact ⟨he.2.1.symm, he.2.2.symm⟩ | exact ⟨he.2.2.1.symm, he.2.2.2.symm⟩ | (rw [ZAP] at he; exact ⟨he.2.1.symm, he.2.2.symm⟩) | (rw [ZAK] at he; exact ⟨he.2.2.1.symm, he.2.2.2.symm⟩) | (rw [ZAL] at he; exact ⟨he.2.2.1.symm, he.2.2.2.symm⟩) | (rw [ZAM] at he; exact ⟨he.2.2.1.symm, he.2.2.2.symm⟩) | (rw [ZAN] at he; exact ⟨he.2.2.1.symm, he.2.2.2.symm⟩)
 case ext j x =>
  simp only [evI] at he
  (repeat' split at he) <;> first | exact he.elim | exact ⟨he.2.1.symm, he.2.2.symm⟩ | exact ⟨he.2.2.1.symm, he.2.2.2.symm⟩ | (rw [ZAP] at he; exact ⟨he.2.1.symm, he.2.2.symm⟩) | (rw [ZAK] at he; exact ⟨he.2.2.1.symm, he.2.2.2.symm⟩) | (rw [ZAL] at he; exact ⟨he.2.2.1.symm, he.2.2.2.symm⟩) | (rw [ZAM] at he; exact ⟨he.2.2.1.symm, he.2.2.2.symm⟩) | (rw [ZAN] at he; exact ⟨he.2.2.1.symm, he.2.2.2.symm⟩)
 case bld z parts =>
  simp only [evI, ZBv] at he
  (repeat' split at he) <;> first | exact he.elim | exact ⟨he.2.1.symm, he.2.2.symm⟩ | exact ⟨he.2.2.1.symm, he.2.2.2.symm⟩ | (rw [ZAP] at he; exact ⟨he.2.1.symm, he.2.2.symm⟩) | (rw [ZAK] at he; exact ⟨he.2.2.1.symm, he.2.2.2.symm⟩) | (rw [ZAL] at he; exact ⟨he.2.2.1.symm, he.2.2.2.symm⟩) | (rw [ZAM] at he; exact ⟨he.2.2.1.symm, he.2.2.2.symm⟩) | (rw [ZAN] at he; exact ⟨he.2.2.1.symm, he.2.2.2.symm⟩)
 case bsl wd m z parts =>
  simp [ZCH] at hp
 case mks wd bytes z l c =>
  simp [ZCH] at hp
 case len x =>
  simp only [evI] at he
  (repeat' split at he) <;> first | exact he.elim | exact ⟨he.2.1.symm, he.2.2.symm⟩ | exact ⟨he.2.2.1.symm, he.2.2.2.symm⟩ | (rw [ZAP] at he; exact ⟨he.2.1.symm, he.2.2.symm⟩) | (rw [ZAK] at he; exact ⟨he.2.2.1.symm, he.2.2.2.symm⟩) | (rw [ZAL] at he; exact ⟨he.2.2.1.symm, he.2.2.2.symm⟩) | (rw [ZAM] at he; exact ⟨he.2.2.1.symm, he.2.2.2.symm⟩) | (rw [ZAN] at he; exact ⟨he.2.2.1.symm, he.2.2.2.symm⟩) | (obtain ⟨v, h1, h2⟩ := ZGs he; exact ⟨h1.2.1.symm, h1.2.2.symm⟩)
 case lens x =>
  simp only [evI] at he
  (repeat' split at he) <;> first | exact he.elim | exact ⟨he.2.1.symm, he.2.2.symm⟩ | exact ⟨he.2.2.1.symm, he.2.2.2.symm⟩ | (rw [ZAP] at he; exact ⟨he.2.1.symm, he.2.2.symm⟩) | (rw [ZAK] at he; exact ⟨he.2.2.1.symm, he.2.2.2.symm⟩) | (rw [ZAL] at he; exact ⟨he.2.2.1.symm, he.2.2.2.symm⟩) | (rw [ZAM] at he; exact ⟨he.2.2.1.symm, he.2.2.2.symm⟩) | (rw [ZAN] at he; exact ⟨he.2.2.1.symm, he.2.2.2.symm⟩)
 case mx k x y =>
  simp only [evI] at he
  (repeat' split at he) <;> first | exact he.elim | exact ⟨he.2.1.symm, he.2.2.symm⟩ | exact ⟨he.2.2.1.symm, he.2.2.2.symm⟩ | (rw [ZAP] at he; exact ⟨he.2.1.symm, he.2.2.symm⟩) | (rw [ZAK] at he; exact ⟨he.2.2.1.symm, he.2.2.2.symm⟩) | (rw [ZAL] at he; exact ⟨he.2.2.1.symm, he.2.2.2.symm⟩) | (rw [ZAM] at he; exact ⟨he.2.2.1.symm, he.2.2.2.symm⟩) | (rw [ZAN] at he; exact ⟨he.2.2.1.symm, he.2.2.2.symm⟩)
 case mn k x y =>
  simp only [evI] at he
  (repeat' split at he) <;> first | exact he.elim | exact ⟨he.2.1.symm, he.2.2.symm⟩ | exact ⟨he.2.2.1.symm, he.2.2.2.symm⟩ | (rw [ZAP] at he; exact ⟨he.2.1.symm, he.2.2.symm⟩) | (rw [ZAK] at he; exact ⟨he.2.2.1.symm, he.2.2.2.symm⟩) | (rw [ZAL] at he; exact ⟨he.2.2.1.symm, he.2.2.2.symm⟩) | (rw [ZAM] at he; exact ⟨he.2.2.1.symm, he.2.2.2.symm⟩) | (rw [ZAN] at he; exact ⟨he.2.2.1.symm, he.2.2.2.symm⟩)
 case slc wd x lo up =>
  cases lo <;> cases up <;> simp only [evI] at he <;> (repeat' split at he) <;> first | exact he.elim | exact ⟨he.2.1.symm, he.2.2.symm⟩ | exact ⟨he.2.2.1.symm, he.2.2.2.symm⟩ | (rw [ZAP] at he; exact ⟨he.2.1.symm, he.2.2.symm⟩) | (rw [ZAK] at he; exact ⟨he.2.2.1.symm, he.2.2.2.symm⟩) | (rw [ZAL] at he; exact ⟨he.2.2.1.symm, he.2.2.2.symm⟩) | (rw [ZAM] at he; exact ⟨he.2.2.1.symm, he.2.2.2.symm⟩) | (rw [ZAN] at he; exact ⟨he.2.2.1.symm, he.2.2.2.symm⟩) | (obtain ⟨v, h1, h2⟩ := ZGt he; exact ⟨h1.2.1.symm, h1.2.2.symm⟩)
 case slt x lo up =>
  cases lo <;> cases up <;> simp only [evI] at he <;> (repeat' split at he) <;> first | exact he.elim | exact ⟨he.2.1.symm, he.2.2.symm⟩ | exact ⟨he.2.2.1.symm, he.2.2.2.symm⟩ | (rw [ZAP] at he; exact ⟨he.2.1.symm, he.2.2.symm⟩) | (rw [ZAK] at he; exact ⟨he.2.2.1.symm, he.2.2.2.symm⟩) | (rw [ZAL] at he; exact ⟨he.2.2.1.symm, he.2.2.2.symm⟩) | (rw [ZAM] at he; exact ⟨he.2.2.1.symm, he.2.2.2.symm⟩) | (rw [ZAN] at he; exact ⟨he.2.2.1.symm, he.2.2.2.symm⟩)
 case app wd bytes s x =>
  simp [ZCH] at hp
 case call f args =>
  simp [ZCH] at hp
 case callv fv args =>
  simp [ZCH] at hp
 case inv recv name args =>
  simp [ZCH] at hp
 case mki t x =>
  simp only [evI] at he
  (repeat' split at he) <;> first | exact he.elim | exact ⟨he.2.1.symm, he.2.2.symm⟩ | exact ⟨he.2.2.1.symm, he.2.2.2.symm⟩ | (rw [ZAP] at he; exact ⟨he.2.1.symm, he.2.2.symm⟩) | (rw [ZAK] at he; exact ⟨he.2.2.1.symm, he.2.2.2.symm⟩) | (rw [ZAL] at he; exact ⟨he.2.2.1.symm, he.2.2.2.symm⟩) | (rw [ZAM] at he; exact ⟨he.2.2.1.symm, he.2.2.2.symm⟩) | (rw [ZAN] at he; exact ⟨he.2.2.1.symm, he.2.2.2.symm⟩)
 case mkf f caps =>
  simp only [evI] at he
  (repeat' split at he) <;> first | exact he.elim | exact ⟨he.2.1.symm, he.2.2.symm⟩ | exact ⟨he.2.2.1.symm, he.2.2.2.symm⟩ | (rw [ZAP] at he; exact ⟨he.2.1.symm, he.2.2.symm⟩) | (rw [ZAK] at he; exact ⟨he.2.2.1.symm, he.2.2.2.symm⟩) | (rw [ZAL] at he; exact ⟨he.2.2.1.symm, he.2.2.2.symm⟩) | (rw [ZAM] at he; exact ⟨he.2.2.1.symm, he.2.2.2.symm⟩) | (rw [ZAN] at he; exact ⟨he.2.2.1.symm, he.2.2.2.symm⟩)
 case mp q qe op =>
  cases op <;> simp only [ZCH, ZRB] at hp <;> first | (cases hp; done) | skip
  case ln m => simp only [evI, evM] at he; (repeat' split at he) <;> first | exact he.elim | exact ⟨he.2.1.symm, he.2.2.symm⟩
  case lk m i =>
   simp only [evI, evM] at he
   split at he
   ·split at he
    ·split at he
     ·split at he
      ·obtain ⟨_, _, _, hK, _⟩ := ZD9 he; exact ⟨hK.2.1.symm, hK.2.2.symm⟩
      ·exact he.elim
     ·exact he.elim
    ·exact he.elim
   ·exact he.elim
 case esc op =>
  simp [ZCH] at hp
theorem ZPZ {G : Ctx} {i : I} (hi : ZCk i = true) (hp : ZCj i = true) {r : Regs} {h : Heap} {n : Nat} {x : SV} {u : Heap} {n' : Nat} (he : evI (CallP G) (InvP G) (EscR G) i r h n (fun x' u' m => x' = x /\ u' = u /\ m = n')) (h2 : Heap) (n2 : Nat) {K : SV -> Heap -> Nat -> Prop} (hk : K x [] n2) :
  evI (CallP G) (InvP G) (EscR G) i r h2 n2 K := by
 cases i
 case mov x =>
  simp only [evI] at he ⊢
  (repeat' split at he) <;> first | exact he.elim | (obtain ⟨rfl, _⟩ := he; exact hk) | (obtain ⟨hc, rfl, _⟩ := he; exact ⟨hc, hk⟩) | (simp only [ZAP] at he ⊢; (obtain ⟨rfl, _⟩ := he; exact hk)) | (simp only [ZAK] at he ⊢; (obtain ⟨hc, rfl, _⟩ := he; exact ⟨hc, hk⟩)) | (simp only [ZAL] at he ⊢; (obtain ⟨hc, rfl, _⟩ := he; exact ⟨hc, hk⟩)) | (simp only [ZAM] at he ⊢; (obtain ⟨hc, rfl, _⟩ := he; exact ⟨hc, hk⟩)) | (simp only [ZAN] at he ⊢; (obtain ⟨hc, rfl, _⟩ := he; exact ⟨hc, hk⟩)) | (obtain ⟨rfl, _⟩ := he; subst_vars; simpa using hk) | (simp only [*, if_true]; first | (obtain ⟨rfl, _⟩ := he; exact hk) | (obtain ⟨hc, rfl, _⟩ := he; exact ⟨hc, hk⟩) | (simp only [ZAP] at he ⊢; (obtain ⟨rfl, _⟩ := he; exact hk)) | (simp only [ZAK] at he ⊢; (obtain ⟨hc, rfl, _⟩ := he; exact ⟨hc, hk⟩)) | (simp only [ZAL] at he ⊢; (obtain ⟨hc, rfl, _⟩ := he; exact ⟨hc, hk⟩)) | (simp only [ZAM] at he ⊢; (obtain ⟨hc, rfl, _⟩ := he; exact ⟨hc, hk⟩)) | (simp only [ZAN] at he ⊢; (obtain ⟨hc, rfl, _⟩ := he; exact ⟨hc, hk⟩)))
 case pick c a b =>
  simp only [evI] at he ⊢
  split at he
  ·rcases ZFG he with ⟨rfl, hb⟩ | ⟨rfl, hb⟩ <;> clear he <;> split at hb <;> first | exact hb.elim | (rename_i v hv; obtain ⟨rfl, _⟩ := hb; simpa [hv] using hk)
  ·exact he.elim
 case alloc z =>
  simp [ZCj] at hp
 case box x =>
  simp [ZCj] at hp
 case ld x =>
  simp [ZCj] at hp
 case lda m x =>
  simp [ZCj] at hp
 case sto m a x =>
  simp [ZCj] at hp
 case nck x =>
  simp only [evI] at he ⊢
  (repeat' split at he) <;> first | exact he.elim | (obtain ⟨rfl, _⟩ := he; exact hk) | (obtain ⟨hc, rfl, _⟩ := he; exact ⟨hc, hk⟩) | (simp only [ZAP] at he ⊢; (obtain ⟨rfl, _⟩ := he; exact hk)) | (simp only [ZAK] at he ⊢; (obtain ⟨hc, rfl, _⟩ := he; exact ⟨hc, hk⟩)) | (simp only [ZAL] at he ⊢; (obtain ⟨hc, rfl, _⟩ := he; exact ⟨hc, hk⟩)) | (simp only [ZAM] at he ⊢; (obtain ⟨hc, rfl, _⟩ := he; exact ⟨hc, hk⟩)) | (simp only [ZAN] at he ⊢; (obtain ⟨hc, rfl, _⟩ := he; exact ⟨hc, hk⟩)) | (obtain ⟨rfl, _⟩ := he; subst_vars; simpa using hk) | (simp only [*, if_true]; first | (obtain ⟨rfl, _⟩ := he; exact hk) | (obtain ⟨hc, rfl, _⟩ := he; exact ⟨hc, hk⟩) | (simp only [ZAP] at he ⊢; (obtain ⟨rfl, _⟩ := he; exact hk)) | (simp only [ZAK] at he ⊢; (obtain ⟨hc, rfl, _⟩ := he; exact ⟨hc, hk⟩)) | (simp only [ZAL] at he ⊢; (obtain ⟨hc, rfl, _⟩ := he; exact ⟨hc, hk⟩)) | (simp only [ZAM] at he ⊢; (obtain ⟨hc, rfl, _⟩ := he; exact ⟨hc, hk⟩)) | (simp only [ZAN] at he ⊢; (obtain ⟨hc, rfl, _⟩ := he; exact ⟨hc, hk⟩))) | (obtain ⟨v, ⟨rfl, _, _⟩, h2⟩ := ZEB he; first | exact h2 _ hk | (split <;> first | (exfalso; simp_all; done) | exact h2 _ hk))
 case ar op k x y =>
  simp only [evI] at he ⊢
  (repeat' split at he) <;> first | exact he.elim | (obtain ⟨rfl, _⟩ := he; exact hk) | (obtain ⟨hc, rfl, _⟩ := he; exact ⟨hc, hk⟩) | (simp only [ZAP] at he ⊢; (obtain ⟨rfl, _⟩ := he; exact hk)) | (simp only [ZAK] at he ⊢; (obtain ⟨hc, rfl, _⟩ := he; exact ⟨hc, hk⟩)) | (simp only [ZAL] at he ⊢; (obtain ⟨hc, rfl, _⟩ := he; exact ⟨hc, hk⟩)) | (simp only [ZAM] at he ⊢; (obtain ⟨hc, rfl, _⟩ := he; exact ⟨hc, hk⟩)) | (simp only [ZAN] at he ⊢; (obtain ⟨hc, rfl, _⟩ := he; exact ⟨hc, hk⟩)) | (obtain ⟨rfl, _⟩ := he; subst_vars; simpa using hk) | (simp only [*, if_true]; first | (obtain ⟨rfl, _⟩ := he; exact hk) | (obtain ⟨hc, rfl, _⟩ := he; exact ⟨hc, hk⟩) | (simp only [ZAP] at he ⊢; (obtain ⟨rfl, _⟩ := he; exact hk)) | (simp only [ZAK] at he ⊢; (obtain ⟨hc, rfl, _⟩ := he; exact ⟨hc, hk⟩)) | (simp only [ZAL] at he ⊢; (obtain ⟨hc, rfl, _⟩ := he; exact ⟨hc, hk⟩)) | (simp only [ZAM] at he ⊢; (obtain ⟨hc, rfl, _⟩ := he; exact ⟨hc, hk⟩)) | (simp only [ZAN] at he ⊢; (obtain ⟨hc, rfl, _⟩ := he; exact ⟨hc, hk⟩)))
 case dv op k x y =>
  simp only [evI] at he ⊢
  (repeat' split at he) <;> first | exact he.elim | (obtain ⟨rfl, _⟩ := he; exact hk) | (obtain ⟨hc, rfl, _⟩ := he; exact ⟨hc, hk⟩) | (simp only [ZAP] at he ⊢; (obtain ⟨rfl, _⟩ := he; exact hk)) | (simp only [ZAK] at he ⊢; (obtain ⟨hc, rfl, _⟩ := he; exact ⟨hc, hk⟩)) | (simp only [ZAL] at he ⊢; (obtain ⟨hc, rfl, _⟩ := he; exact ⟨hc, hk⟩)) | (simp only [ZAM] at he ⊢; (obtain ⟨hc, rfl, _⟩ := he; exact ⟨hc, hk⟩)) | (simp only [ZAN] at he ⊢; (obtain ⟨hc, rfl, _⟩ := he; exact ⟨hc, hk⟩)) | (obtain ⟨rfl, _⟩ := he; subst_vars; simpa using hk) | (simp only [*, if_true]; first | (obtain ⟨rfl, _⟩ := he; exact hk) | (obtain ⟨hc, rfl, _⟩ := he; exact ⟨hc, hk⟩) | (simp only [ZAP] at he ⊢; (obtain ⟨rfl, _⟩ := he; exact hk)) | (simp only [ZAK] at he ⊢; (obtain ⟨hc, rfl, _⟩ := he; exact ⟨hc, hk⟩)) | (simp only [ZAL] at he ⊢; (obtain ⟨hc, rfl, _⟩ := he; exact ⟨hc, hk⟩)) | (simp only [ZAM] at he ⊢; (obtain ⟨hc, rfl, _⟩ := he; exact ⟨hc, hk⟩)) | (simp only [ZAN] at he ⊢; (obtain ⟨hc, rfl, _⟩ := he; exact ⟨hc, hk⟩)))
 case bt op k x y =>
  simp only [evI] at he ⊢
  (repeat' split at he) <;> first | exact he.elim | (obtain ⟨rfl, _⟩ := he; exact hk) | (obtain ⟨hc, rfl, _⟩ := he; exact ⟨hc, hk⟩) | (simp only [ZAP] at he ⊢; (obtain ⟨rfl, _⟩ := he; exact hk)) | (simp only [ZAK] at he ⊢; (obtain ⟨hc, rfl, _⟩ := he; exact ⟨hc, hk⟩)) | (simp only [ZAL] at he ⊢; (obtain ⟨hc, rfl, _⟩ := he; exact ⟨hc, hk⟩)) | (simp only [ZAM] at he ⊢; (obtain ⟨hc, rfl, _⟩ := he; exact ⟨hc, hk⟩)) | (simp only [ZAN] at he ⊢; (obtain ⟨hc, rfl, _⟩ := he; exact ⟨hc, hk⟩)) | (obtain ⟨rfl, _⟩ := he; subst_vars; simpa using hk) | (simp only [*, if_true]; first | (obtain ⟨rfl, _⟩ := he; exact hk) | (obtain ⟨hc, rfl, _⟩ := he; exact ⟨hc, hk⟩) | (simp only [ZAP] at he ⊢; (obtain ⟨rfl, _⟩ := he; exact hk)) | (simp only [ZAK] at he ⊢; (obtain ⟨hc, rfl, _⟩ := he; exact ⟨hc, hk⟩)) | (simp only [ZAL] at he ⊢; (obtain ⟨hc, rfl, _⟩ := he; exact ⟨hc, hk⟩)) | (simp only [ZAM] at he ⊢; (obtain ⟨hc, rfl, _⟩ := he; exact ⟨hc, hk⟩)) | (simp only [ZAN] at he ⊢; (obtain ⟨hc, rfl, _⟩ := he; exact ⟨hc, hk⟩)))
 case sh op k x y =>
  simp only [evI] at he ⊢
  (repeat' split at he) <;> first | exact he.elim | (obtain ⟨rfl, _⟩ := he; exact hk) | (obtain ⟨hc, rfl, _⟩ := he; exact ⟨hc, hk⟩) | (simp only [ZAP] at he ⊢; (obtain ⟨rfl, _⟩ := he; exact hk)) | (simp only [ZAK] at he ⊢; (obtain ⟨hc, rfl, _⟩ := he; exact ⟨hc, hk⟩)) | (simp only [ZAL] at he ⊢; (obtain ⟨hc, rfl, _⟩ := he; exact ⟨hc, hk⟩)) | (simp only [ZAM] at he ⊢; (obtain ⟨hc, rfl, _⟩ := he; exact ⟨hc, hk⟩)) | (simp only [ZAN] at he ⊢; (obtain ⟨hc, rfl, _⟩ := he; exact ⟨hc, hk⟩)) | (obtain ⟨rfl, _⟩ := he; subst_vars; simpa using hk) | (simp only [*, if_true]; first | (obtain ⟨rfl, _⟩ := he; exact hk) | (obtain ⟨hc, rfl, _⟩ := he; exact ⟨hc, hk⟩) | (simp only [ZAP] at he ⊢; (obtain ⟨rfl, _⟩ := he; exact hk)) | (simp only [ZAK] at he ⊢; (obtain ⟨hc, rfl, _⟩ := he; exact ⟨hc, hk⟩)) | (simp only [ZAL] at he ⊢; (obtain ⟨hc, rfl, _⟩ := he; exact ⟨hc, hk⟩)) | (simp only [ZAM] at he ⊢; (obtain ⟨hc, rfl, _⟩ := he; exact ⟨hc, hk⟩)) | (simp only [ZAN] at he ⊢; (obtain ⟨hc, rfl, _⟩ := he; exact ⟨hc, hk⟩)))
 case cmp op k x y =>
  simp only [evI] at he ⊢
  (repeat' split at he) <;> first | exact he.elim | (obtain ⟨rfl, _⟩ := he; exact hk) | (obtain ⟨hc, rfl, _⟩ := he; exact ⟨hc, hk⟩) | (simp only [ZAP] at he ⊢; (obtain ⟨rfl, _⟩ := he; exact hk)) | (simp only [ZAK] at he ⊢; (obtain ⟨hc, rfl, _⟩ := he; exact ⟨hc, hk⟩)) | (simp only [ZAL] at he ⊢; (obtain ⟨hc, rfl, _⟩ := he; exact ⟨hc, hk⟩)) | (simp only [ZAM] at he ⊢; (obtain ⟨hc, rfl, _⟩ := he; exact ⟨hc, hk⟩)) | (simp only [ZAN] at he ⊢; (obtain ⟨hc, rfl, _⟩ := he; exact ⟨hc, hk⟩)) | (obtain ⟨rfl, _⟩ := he; subst_vars; simpa using hk) | (simp only [*, if_true]; first | (obtain ⟨rfl, _⟩ := he; exact hk) | (obtain ⟨hc, rfl, _⟩ := he; exact ⟨hc, hk⟩) | (simp only [ZAP] at he ⊢; (obtain ⟨rfl, _⟩ := he; exact hk)) | (simp only [ZAK] at he ⊢; (obtain ⟨hc, rfl, _⟩ := he; exact ⟨hc, hk⟩)) | (simp only [ZAL] at he ⊢; (obtain ⟨hc, rfl, _⟩ := he; exact ⟨hc, hk⟩)) | (simp only [ZAM] at he ⊢; (obtain ⟨hc, rfl, _⟩ := he; exact ⟨hc, hk⟩)) | (simp only [ZAN] at he ⊢; (obtain ⟨hc, rfl, _⟩ := he; exact ⟨hc, hk⟩)))
 case eq c neg x y =>
  simp only [evI] at he ⊢
  (repeat' split at he) <;> first | exact he.elim | (obtain ⟨rfl, _⟩ := he; exact hk) | (obtain ⟨hc, rfl, _⟩ := he; exact ⟨hc, hk⟩) | (simp only [ZAP] at he ⊢; (obtain ⟨rfl, _⟩ := he; exact hk)) | (simp only [ZAK] at he ⊢; (obtain ⟨hc, rfl, _⟩ := he; exact ⟨hc, hk⟩)) | (simp only [ZAL] at he ⊢; (obtain ⟨hc, rfl, _⟩ := he; exact ⟨hc, hk⟩)) | (simp only [ZAM] at he ⊢; (obtain ⟨hc, rfl, _⟩ := he; exact ⟨hc, hk⟩)) | (simp only [ZAN] at he ⊢; (obtain ⟨hc, rfl, _⟩ := he; exact ⟨hc, hk⟩)) | (obtain ⟨rfl, _⟩ := he; subst_vars; simpa using hk) | (simp only [*, if_true]; first | (obtain ⟨rfl, _⟩ := he; exact hk) | (obtain ⟨hc, rfl, _⟩ := he; exact ⟨hc, hk⟩) | (simp only [ZAP] at he ⊢; (obtain ⟨rfl, _⟩ := he; exact hk)) | (simp only [ZAK] at he ⊢; (obtain ⟨hc, rfl, _⟩ := he; exact ⟨hc, hk⟩)) | (simp only [ZAL] at he ⊢; (obtain ⟨hc, rfl, _⟩ := he; exact ⟨hc, hk⟩)) | (simp only [ZAM] at he ⊢; (obtain ⟨hc, rfl, _⟩ := he; exact ⟨hc, hk⟩)) | (simp only [ZAN] at he ⊢; (obtain ⟨hc, rfl, _⟩ := he; exact ⟨hc, hk⟩)))
 case eqa cs neg x y =>
  simp only [evI] at he ⊢
  (repeat' split at he) <;> first | exact he.elim | (obtain ⟨rfl, _⟩ := he; exact hk) | (obtain ⟨hc, rfl, _⟩ := he; exact ⟨hc, hk⟩) | (simp only [ZAP] at he ⊢; (obtain ⟨rfl, _⟩ := he; exact hk)) | (simp only [ZAK] at he ⊢; (obtain ⟨hc, rfl, _⟩ := he; exact ⟨hc, hk⟩)) | (simp only [ZAL] at he ⊢; (obtain ⟨hc, rfl, _⟩ := he; exact ⟨hc, hk⟩)) | (simp only [ZAM] at he ⊢; (obtain ⟨hc, rfl, _⟩ := he; exact ⟨hc, hk⟩)) | (simp only [ZAN] at he ⊢; (obtain ⟨hc, rfl, _⟩ := he; exact ⟨hc, hk⟩)) | (obtain ⟨rfl, _⟩ := he; subst_vars; simpa using hk) | (simp only [*, if_true]; first | (obtain ⟨rfl, _⟩ := he; exact hk) | (obtain ⟨hc, rfl, _⟩ := he; exact ⟨hc, hk⟩) | (simp only [ZAP] at he ⊢; (obtain ⟨rfl, _⟩ := he; exact hk)) | (simp only [ZAK] at he ⊢; (obtain ⟨hc, rfl, _⟩ := he; exact ⟨hc, hk⟩)) | (simp only [ZAL] at he ⊢; (obtain ⟨hc, rfl, _⟩ := he; exact ⟨hc, hk⟩)) | (simp only [ZAM] at he ⊢; (obtain ⟨hc, rfl, _⟩ := he; exact ⟨hc, hk⟩)) | (simp only [ZAN] at he ⊢; (obtain ⟨hc, rfl, _⟩ := he; exact ⟨hc, hk⟩)))
 case cat x y =>
  simp only [evI] at he ⊢
  (repeat' split at he) <;> first | exact he.elim | (obtain ⟨rfl, _⟩ := he; exact hk) | (obtain ⟨hc, rfl, _⟩ := he; exact ⟨hc, hk⟩) | (simp only [ZAP] at he ⊢; (obtain ⟨rfl, _⟩ := he; exact hk)) | (simp only [ZAK] at he ⊢; (obtain ⟨hc, rfl, _⟩ := he; exact ⟨hc, hk⟩)) | (simp only [ZAL] at he ⊢; (obtain ⟨hc, rfl, _⟩ := he; exact ⟨hc, hk⟩)) | (simp only [ZAM] at he ⊢; (obtain ⟨hc, rfl, _⟩ := he; exact ⟨hc, hk⟩)) | (simp only [ZAN] at he ⊢; (obtain ⟨hc, rfl, _⟩ := he; exact ⟨hc, hk⟩)) | (obtain ⟨rfl, _⟩ := he; subst_vars; simpa using hk) | (simp only [*, if_true]; first | (obtain ⟨rfl, _⟩ := he; exact hk) | (obtain ⟨hc, rfl, _⟩ := he; exact ⟨hc, hk⟩) | (simp only [ZAP] at he ⊢; (obtain ⟨rfl, _⟩ := he; exact hk)) | (simp only [ZAK] at he ⊢; (obtain ⟨hc, rfl, _⟩ := he; exact ⟨hc, hk⟩)) | (simp only [ZAL] at he ⊢; (obtain ⟨hc, rfl, _⟩ := he; exact ⟨hc, hk⟩)) | (simp only [ZAM] at he ⊢; (obtain ⟨hc, rfl, _⟩ := he; exact ⟨hc, hk⟩)) | (simp only [ZAN] at he ⊢; (obtain ⟨hc, rfl, _⟩ := he; exact ⟨hc, hk⟩)))
 case not x =>
  simp only [evI] at he ⊢
  (repeat' split at he) <;> first | exact he.elim | (obtain ⟨rfl, _⟩ := he; exact hk) | (obtain ⟨hc, rfl, _⟩ := he; exact ⟨hc, hk⟩) | (simp only [ZAP] at he ⊢; (obtain ⟨rfl, _⟩ := he; exact hk)) | (simp only [ZAK] at he ⊢; (obtain ⟨hc, rfl, _⟩ := he; exact ⟨hc, hk⟩)) | (simp only [ZAL] at he ⊢; (obtain ⟨hc, rfl, _⟩ := he; exact ⟨hc, hk⟩)) | (simp only [ZAM] at he ⊢; (obtain ⟨hc, rfl, _⟩ := he; exact ⟨hc, hk⟩)) | (simp only [ZAN] at he ⊢; (obtain ⟨hc, rfl, _⟩ := he; exact ⟨hc, hk⟩)) | (obtain ⟨rfl, _⟩ := he; subst_vars; simpa using hk) | (simp only [*, if_true]; first | (obtain ⟨rfl, _⟩ := he; exact hk) | (obtain ⟨hc, rfl, _⟩ := he; exact ⟨hc, hk⟩) | (simp only [ZAP] at he ⊢; (obtain ⟨rfl, _⟩ := he; exact hk)) | (simp only [ZAK] at he ⊢; (obtain ⟨hc, rfl, _⟩ := he; exact ⟨hc, hk⟩)) | (simp only [ZAL] at he ⊢; (obtain ⟨hc, rfl, _⟩ := he; exact ⟨hc, hk⟩)) | (simp only [ZAM] at he ⊢; (obtain ⟨hc, rfl, _⟩ := he; exact ⟨hc, hk⟩)) | (simp only [ZAN] at he ⊢; (obtain ⟨hc, rfl, _⟩ := he; exact ⟨hc, hk⟩)))
 case neg k x =>
  simp only [evI] at he ⊢
  (repeat' split at he) <;> first | exact he.elim | (obtain ⟨rfl, _⟩ := he; exact hk) | (obtain ⟨hc, rfl, _⟩ := he; exact ⟨hc, hk⟩) | (simp only [ZAP] at he ⊢; (obtain ⟨rfl, _⟩ := he; exact hk)) | (simp only [ZAK] at he ⊢; (obtain ⟨hc, rfl, _⟩ := he; exact ⟨hc, hk⟩)) | (simp only [ZAL] at he ⊢; (obtain ⟨hc, rfl, _⟩ := he; exact ⟨hc, hk⟩)) | (simp only [ZAM] at he ⊢; (obtain ⟨hc, rfl, _⟩ := he; exact ⟨hc, hk⟩)) | (simp only [ZAN] at he ⊢; (obtain ⟨hc, rfl, _⟩ := he; exact ⟨hc, hk⟩)) | (obtain ⟨rfl, _⟩ := he; subst_vars; simpa using hk) | (simp only [*, if_true]; first | (obtain ⟨rfl, _⟩ := he; exact hk) | (obtain ⟨hc, rfl, _⟩ := he; exact ⟨hc, hk⟩) | (simp only [ZAP] at he ⊢; (obtain ⟨rfl, _⟩ := he; exact hk)) | (simp only [ZAK] at he ⊢; (obtain ⟨hc, rfl, _⟩ := he; exact ⟨hc, hk⟩)) | (simp only [ZAL] at he ⊢; (obtain ⟨hc, rfl, _⟩ := he; exact ⟨hc, hk⟩)) | (simp only [ZAM] at he ⊢; (obtain ⟨hc, rfl, _⟩ := he; exact ⟨hc, hk⟩)) | (simp only [ZAN] at he ⊢; (obtain ⟨hc, rfl, _⟩ := he; exact ⟨hc, hk⟩)))
 case conv k x =>
  simp only [evI] at he ⊢
  (repeat' split at he) <;> first | exact he.elim | (obtain ⟨rfl, _⟩ := he; exact hk) | (obtain ⟨hc, rfl, _⟩ := he; exact ⟨hc, hk⟩) | (simp only [ZAP] at he ⊢; (obtain ⟨rfl, _⟩ := he; exact hk)) | (simp only [ZAK] at he ⊢; (obtain ⟨hc, rfl, _⟩ := he; exact ⟨hc, hk⟩)) | (simp only [ZAL] at he ⊢; (obtain ⟨hc, rfl, _⟩ := he; exact ⟨hc, hk⟩)) | (simp only [ZAM] at he ⊢; (obtain ⟨hc, rfl, _⟩ := he; exact ⟨hc, hk⟩)) | (simp only [ZAN] at he ⊢; (obtain ⟨hc, rfl, _⟩ := he; exact ⟨hc, hk⟩)) | (obtain ⟨rfl, _⟩ := he; subst_vars; simpa using hk) | (simp only [*, if_true]; first | (obtain ⟨rfl, _⟩ := he; exact hk) | (obtain ⟨hc, rfl, _⟩ := he; exact ⟨hc, hk⟩) | (simp only [ZAP] at he ⊢; (obtain ⟨rfl, _⟩ := he; exact hk)) | (simp only [ZAK] at he ⊢; (obtain ⟨hc, rfl, _⟩ := he; exact ⟨hc, hk⟩)) | (simp only [ZAL] at he ⊢; (obtain ⟨hc, rfl, _⟩ := he; exact ⟨hc, hk⟩)) | (simp only [ZAM] at he ⊢; (obtain ⟨hc, rfl, _⟩ := he; exact ⟨hc, hk⟩)) | (simp only [ZAN] at he ⊢; (obtain ⟨hc, rfl, _⟩ := he; exact ⟨hc, hk⟩)))
 case fa off x =>
  simp only [evI] at he ⊢
  (repeat' split at he) <;> first | exact he.elim | (obtain ⟨rfl, _⟩ := he; exact hk) | (obtain ⟨hc, rfl, _⟩ := he; exact ⟨hc, hk⟩) | (simp only [ZAP] at he ⊢; (obtain ⟨rfl, _⟩ := he; exact hk)) | (simp only [ZAK] at he ⊢; (obtain ⟨hc, rfl, _⟩ := he; exact ⟨hc, hk⟩)) | (simp only [ZAL] at he ⊢; (obtain ⟨hc, rfl, _⟩ := he; exact ⟨hc, hk⟩)) | (simp only [ZAM] at he ⊢; (obtain ⟨hc, rfl, _⟩ := he; exact ⟨hc, hk⟩)) | (simp only [ZAN] at he ⊢; (obtain ⟨hc, rfl, _⟩ := he; exact ⟨hc, hk⟩)) | (obtain ⟨rfl, _⟩ := he; subst_vars; simpa using hk) | (simp only [*, if_true]; first | (obtain ⟨rfl, _⟩ := he; exact hk) | (obtain ⟨hc, rfl, _⟩ := he; exact ⟨hc, hk⟩) | (simp only [ZAP] at he ⊢; (obtain ⟨rfl, _⟩ := he; exact hk)) | (simp only [ZAK] at he ⊢; (obtain ⟨hc, rfl, _⟩ := he; exact ⟨hc, hk⟩)) | (simp only [ZAL] at he ⊢; (obtain ⟨hc, rfl, _⟩ := he; exact ⟨hc, hk⟩)) | (simp only [ZAM] at he ⊢; (obtain ⟨hc, rfl, _⟩ := he; exact ⟨hc, hk⟩)) | (simp only [ZAN] at he ⊢; (obtain ⟨hc, rfl, _⟩ := he; exact ⟨hc, hk⟩))) | (obtain ⟨v, ⟨rfl, _, _⟩, h2⟩ := ZEB he; first | exact h2 _ hk | (split <;> first | (exfalso; simp_all; done) | exact h2 _ hk))
 case ixs wd x i =>
  simp only [evI] at he ⊢
  (repeat' split at he) <;> first | exact he.elim | (obtain ⟨rfl, _⟩ := he; exact hk) | (obtain ⟨hc, rfl, _⟩ := he; exact ⟨hc, hk⟩) | (simp only [ZAP] at he ⊢; (obtain ⟨rfl, _⟩ := he; exact hk)) | (simp only [ZAK] at he ⊢; (obtain ⟨hc, rfl, _⟩ := he; exact ⟨hc, hk⟩)) | (simp only [ZAL] at he ⊢; (obtain ⟨hc, rfl, _⟩ := he; exact ⟨hc, hk⟩)) | (simp only [ZAM] at he ⊢; (obtain ⟨hc, rfl, _⟩ := he; exact ⟨hc, hk⟩)) | (simp only [ZAN] at he ⊢; (obtain ⟨hc, rfl, _⟩ := he; exact ⟨hc, hk⟩)) | (obtain ⟨rfl, _⟩ := he; subst_vars; simpa using hk) | (simp only [*, if_true]; first | (obtain ⟨rfl, _⟩ := he; exact hk) | (obtain ⟨hc, rfl, _⟩ := he; exact ⟨hc, hk⟩) | (simp only [ZAP] at he ⊢; (obtain ⟨rfl, _⟩ := he; exact hk)) | (simp only [ZAK] at he ⊢; (obtain ⟨hc, rfl, _⟩ := he; exact ⟨hc, hk⟩)) | (simp only [ZAL] at he ⊢; (obtain ⟨hc, rfl, _⟩ := he; exact ⟨hc, hk⟩)) | (simp only [ZAM] at he ⊢; (obtain ⟨hc, rfl, _⟩ := he; exact ⟨hc, hk⟩)) | (simp only [ZAN] at he ⊢; (obtain ⟨hc, rfl, _⟩ := he; exact ⟨hc, hk⟩))) | (obtain ⟨v, ⟨rfl, _, _⟩, h2⟩ := ZGq he; first | exact h2 _ hk | (split <;> first | (exfalso; simp_all; done) | exact h2 _ hk))
 case ixa sz m x i =>
  simp only [evI] at he ⊢
  (repeat' split at he) <;> first | exact he.elim | (obtain ⟨rfl, _⟩ := he; exact hk) | (obtain ⟨hc, rfl, _⟩ := he; exact ⟨hc, hk⟩) | (simp only [ZAP] at he ⊢; (obtain ⟨rfl, _⟩ := he; exact hk)) | (simp only [ZAK] at he ⊢; (obtain ⟨hc, rfl, _⟩ := he; exact ⟨hc, hk⟩)) | (simp only [ZAL] at he ⊢; (obtain ⟨hc, rfl, _⟩ := he; exact ⟨hc, hk⟩)) | (simp only [ZAM] at he ⊢; (obtain ⟨hc, rfl, _⟩ := he; exact ⟨hc, hk⟩)) | (simp only [ZAN] at he ⊢; (obtain ⟨hc, rfl, _⟩ := he; exact ⟨hc, hk⟩)) | (obtain ⟨rfl, _⟩ := he; subst_vars; simpa using hk) | (simp only [*, if_true]; first | (obtain ⟨rfl, _⟩ := he; exact hk) | (obtain ⟨hc, rfl, _⟩ := he; exact ⟨hc, hk⟩) | (simp only [ZAP] at he ⊢; (obtain ⟨rfl, _⟩ := he; exact hk)) | (simp only [ZAK] at he ⊢; (obtain ⟨hc, rfl, _⟩ := he; exact ⟨hc, hk⟩)) | (simp only [ZAL] at he ⊢; (obtain ⟨hc, rfl, _⟩ := he; exact ⟨hc, hk⟩)) | (simp only [ZAM] at he ⊢; (obtain ⟨hc, rfl, _⟩ := he; exact ⟨hc, hk⟩)) | (simp only [ZAN] at he ⊢; (obtain ⟨hc, rfl, _⟩ := he; exact ⟨hc, hk⟩))) | (obtain ⟨v, ⟨rfl, _, _⟩, h2⟩ := ZGr he; first | exact h2 _ hk | (split <;> first | (exfalso; simp_all; done) | exact h2 _ hk))
 case ixt x i =>
  simp only [evI] at he ⊢
  split at he
  ·obtain ⟨hc, rfl, _⟩ := he
   exact ⟨hc, hk⟩
  ·exact he.elim
 case fld off x =>
  simp only [evI] at he ⊢
  (repeat' split at he) <;> first | exact he.elim | (obtain ⟨rfl, _⟩ := he; exact hk) | (obtain ⟨hc, rfl, _⟩ := he; exact ⟨hc, hk⟩) | (simp only [ZAP] at he ⊢; (obtain ⟨rfl, _⟩ := he; exact hk)) | (simp only [ZAK] at he ⊢; (obtain ⟨hc, rfl, _⟩ := he; exact ⟨hc, hk⟩)) | (simp only [ZAL] at he ⊢; (obtain ⟨hc, rfl, _⟩ := he; exact ⟨hc, hk⟩)) | (simp only [ZAM] at he ⊢; (obtain ⟨hc, rfl, _⟩ := he; exact ⟨hc, hk⟩)) | (simp only [ZAN] at he ⊢; (obtain ⟨hc, rfl, _⟩ := he; exact ⟨hc, hk⟩)) | (obtain ⟨rfl, _⟩ := he; subst_vars; simpa using hk) | (simp only [*, if_true]; first | (obtain ⟨rfl, _⟩ := he; exact hk) | (obtain ⟨hc, rfl, _⟩ := he; exact ⟨hc, hk⟩) | (simp only [ZAP] at he ⊢; (obtain ⟨rfl, _⟩ := he; exact hk)) | (simp only [ZAK] at he ⊢; (obtain ⟨hc, rfl, _⟩ := he; exact ⟨hc, hk⟩)) | (simp only [ZAL] at he ⊢; (obtain ⟨hc, rfl, _⟩ := he; exact ⟨hc, hk⟩)) | (simp only [ZAM] at he ⊢; (obtain ⟨hc, rfl, _⟩ := he; exact ⟨hc, hk⟩)) | (simp only [ZAN] at he ⊢; (obtain ⟨hc, rfl, _⟩ := he; exact ⟨hc, hk⟩)))
 case flda off m x =>
  simp only [evI] at he ⊢
  (repeat' split at he) <;> first | exact he.elim | (obtain ⟨rfl, _⟩ := he; exact hk) | (obtain ⟨hc, rfl, _⟩ := he; exact ⟨hc, hk⟩) | (simp only [ZAP] at he ⊢; (obtain ⟨rfl, _⟩ := he; exact hk)) | (simp only [ZAK] at he ⊢; (obtain ⟨hc, rfl, _⟩ := he; exact ⟨hc, hk⟩)) | (simp only [ZAL] at he ⊢; (obtain ⟨hc, rfl, _⟩ := he; exact ⟨hc, hk⟩)) | (simp only [ZAM] at he ⊢; (obtain ⟨hc, rfl, _⟩ := he; exact ⟨hc, hk⟩)) | (simp only [ZAN] at he ⊢; (obtain ⟨hc, rfl, _⟩ := he; exact ⟨hc, hk⟩)) | (obtain ⟨rfl, _⟩ := he; subst_vars; simpa using hk) | (simp only [*, if_true]; first | (obtain ⟨rfl, _⟩ := he; exact hk) | (obtain ⟨hc, rfl, _⟩ := he; exact ⟨hc, hk⟩) | (simp only [ZAP] at he ⊢; (obtain ⟨rfl, _⟩ := he; exact hk)) | (simp only [ZAK] at he ⊢; (obtain ⟨hc, rfl, _⟩ := he; exact ⟨hc, hk⟩)) | (simp only [ZAL] at he ⊢; (obtain ⟨hc, rfl, _⟩ := he; exact ⟨hc, hk⟩)) | (simp only [ZAM] at he ⊢; (obtain ⟨hc, rfl, _⟩ := he; exact ⟨hc, hk⟩)) | (simp only [ZAN] at he ⊢; (obtain ⟨hc, rfl, _⟩ := he; exact ⟨hc, hk⟩)))
 case ext j x =>
  simp only [evI] at he ⊢
  (repeat' split at he) <;> first | exact he.elim | (obtain ⟨rfl, _⟩ := he; exact hk) | (obtain ⟨hc, rfl, _⟩ := he; exact ⟨hc, hk⟩) | (simp only [ZAP] at he ⊢; (obtain ⟨rfl, _⟩ := he; exact hk)) | (simp only [ZAK] at he ⊢; (obtain ⟨hc, rfl, _⟩ := he; exact ⟨hc, hk⟩)) | (simp only [ZAL] at he ⊢; (obtain ⟨hc, rfl, _⟩ := he; exact ⟨hc, hk⟩)) | (simp only [ZAM] at he ⊢; (obtain ⟨hc, rfl, _⟩ := he; exact ⟨hc, hk⟩)) | (simp only [ZAN] at he ⊢; (obtain ⟨hc, rfl, _⟩ := he; exact ⟨hc, hk⟩)) | (obtain ⟨rfl, _⟩ := he; subst_vars; simpa using hk) | (simp only [*, if_true]; first | (obtain ⟨rfl, _⟩ := he; exact hk) | (obtain ⟨hc, rfl, _⟩ := he; exact ⟨hc, hk⟩) | (simp only [ZAP] at he ⊢; (obtain ⟨rfl, _⟩ := he; exact hk)) | (simp only [ZAK] at he ⊢; (obtain ⟨hc, rfl, _⟩ := he; exact ⟨hc, hk⟩)) | (simp only [ZAL] at he ⊢; (obtain ⟨hc, rfl, _⟩ := he; exact ⟨hc, hk⟩)) | (simp only [ZAM] at he ⊢; (obtain ⟨hc, rfl, _⟩ := he; exact ⟨hc, hk⟩)) | (simp only [ZAN] at he ⊢; (obtain ⟨hc, rfl, _⟩ := he; exact ⟨hc, hk⟩)))
 case bld z parts =>
  simp only [evI, ZBv] at he ⊢
  (repeat' split at he) <;> first | exact he.elim | (obtain ⟨rfl, _⟩ := he; exact hk) | (obtain ⟨hc, rfl, _⟩ := he; exact ⟨hc, hk⟩) | (simp only [ZAP] at he ⊢; (obtain ⟨rfl, _⟩ := he; exact hk)) | (simp only [ZAK] at he ⊢; (obtain ⟨hc, rfl, _⟩ := he; exact ⟨hc, hk⟩)) | (simp only [ZAL] at he ⊢; (obtain ⟨hc, rfl, _⟩ := he; exact ⟨hc, hk⟩)) | (simp only [ZAM] at he ⊢; (obtain ⟨hc, rfl, _⟩ := he; exact ⟨hc, hk⟩)) | (simp only [ZAN] at he ⊢; (obtain ⟨hc, rfl, _⟩ := he; exact ⟨hc, hk⟩)) | (obtain ⟨rfl, _⟩ := he; subst_vars; simpa using hk) | (simp only [*, if_true]; first | (obtain ⟨rfl, _⟩ := he; exact hk) | (obtain ⟨hc, rfl, _⟩ := he; exact ⟨hc, hk⟩) | (simp only [ZAP] at he ⊢; (obtain ⟨rfl, _⟩ := he; exact hk)) | (simp only [ZAK] at he ⊢; (obtain ⟨hc, rfl, _⟩ := he; exact ⟨hc, hk⟩)) | (simp only [ZAL] at he ⊢; (obtain ⟨hc, rfl, _⟩ := he; exact ⟨hc, hk⟩)) | (simp only [ZAM] at he ⊢; (obtain ⟨hc, rfl, _⟩ := he; exact ⟨hc, hk⟩)) | (simp only [ZAN] at he ⊢; (obtain ⟨hc, rfl, _⟩ := he; exact ⟨hc, hk⟩)))
 case bsl wd m z parts =>
  simp [ZCj] at hp
 case mks wd bytes z l c =>
  simp [ZCj] at hp
 case len x =>
  simp only [evI] at he ⊢
  (repeat' split at he) <;> first | exact he.elim | (obtain ⟨rfl, _⟩ := he; exact hk) | (obtain ⟨hc, rfl, _⟩ := he; exact ⟨hc, hk⟩) | (simp only [ZAP] at he ⊢; (obtain ⟨rfl, _⟩ := he; exact hk)) | (simp only [ZAK] at he ⊢; (obtain ⟨hc, rfl, _⟩ := he; exact ⟨hc, hk⟩)) | (simp only [ZAL] at he ⊢; (obtain ⟨hc, rfl, _⟩ := he; exact ⟨hc, hk⟩)) | (simp only [ZAM] at he ⊢; (obtain ⟨hc, rfl, _⟩ := he; exact ⟨hc, hk⟩)) | (simp only [ZAN] at he ⊢; (obtain ⟨hc, rfl, _⟩ := he; exact ⟨hc, hk⟩)) | (obtain ⟨rfl, _⟩ := he; subst_vars; simpa using hk) | (simp only [*, if_true]; first | (obtain ⟨rfl, _⟩ := he; exact hk) | (obtain ⟨hc, rfl, _⟩ := he; exact ⟨hc, hk⟩) | (simp only [ZAP] at he ⊢; (obtain ⟨rfl, _⟩ := he; exact hk)) | (simp only [ZAK] at he ⊢; (obtain ⟨hc, rfl, _⟩ := he; exact ⟨hc, hk⟩)) | (simp only [ZAL] at he ⊢; (obtain ⟨hc, rfl, _⟩ := he; exact ⟨hc, hk⟩)) | (simp only [ZAM] at he ⊢; (obtain ⟨hc, rfl, _⟩ := he; exact ⟨hc, hk⟩)) | (simp only [ZAN] at he ⊢; (obtain ⟨hc, rfl, _⟩ := he; exact ⟨hc, hk⟩))) | (obtain ⟨v, ⟨rfl, _, _⟩, h2⟩ := ZGs he; first | exact h2 _ hk | (split <;> first | (exfalso; simp_all; done) | exact h2 _ hk))
 case lens x =>
  simp only [evI] at he ⊢
  (repeat' split at he) <;> first | exact he.elim | (obtain ⟨rfl, _⟩ := he; exact hk) | (obtain ⟨hc, rfl, _⟩ := he; exact ⟨hc, hk⟩) | (simp only [ZAP] at he ⊢; (obtain ⟨rfl, _⟩ := he; exact hk)) | (simp only [ZAK] at he ⊢; (obtain ⟨hc, rfl, _⟩ := he; exact ⟨hc, hk⟩)) | (simp only [ZAL] at he ⊢; (obtain ⟨hc, rfl, _⟩ := he; exact ⟨hc, hk⟩)) | (simp only [ZAM] at he ⊢; (obtain ⟨hc, rfl, _⟩ := he; exact ⟨hc, hk⟩)) | (simp only [ZAN] at he ⊢; (obtain ⟨hc, rfl, _⟩ := he; exact ⟨hc, hk⟩)) | (obtain ⟨rfl, _⟩ := he; subst_vars; simpa using hk) | (simp only [*, if_true]; first | (obtain ⟨rfl, _⟩ := he; exact hk) | (obtain ⟨hc, rfl, _⟩ := he; exact ⟨hc, hk⟩) | (simp only [ZAP] at he ⊢; (obtain ⟨rfl, _⟩ := he; exact hk)) | (simp only [ZAK] at he ⊢; (obtain ⟨hc, rfl, _⟩ := he; exact ⟨hc, hk⟩)) | (simp only [ZAL] at he ⊢; (obtain ⟨hc, rfl, _⟩ := he; exact ⟨hc, hk⟩)) | (simp only [ZAM] at he ⊢; (obtain ⟨hc, rfl, _⟩ := he; exact ⟨hc, hk⟩)) | (simp only [ZAN] at he ⊢; (obtain ⟨hc, rfl, _⟩ := he; exact ⟨hc, hk⟩)))
 case mx k x y =>
  simp only [evI] at he ⊢
  (repeat' split at he) <;> first | exact he.elim | (obtain ⟨rfl, _⟩ := he; exact hk) | (obtain ⟨hc, rfl, _⟩ := he; exact ⟨hc, hk⟩) | (simp only [ZAP] at he ⊢; (obtain ⟨rfl, _⟩ := he; exact hk)) | (simp only [ZAK] at he ⊢; (obtain ⟨hc, rfl, _⟩ := he; exact ⟨hc, hk⟩)) | (simp only [ZAL] at he ⊢; (obtain ⟨hc, rfl, _⟩ := he; exact ⟨hc, hk⟩)) | (simp only [ZAM] at he ⊢; (obtain ⟨hc, rfl, _⟩ := he; exact ⟨hc, hk⟩)) | (simp only [ZAN] at he ⊢; (obtain ⟨hc, rfl, _⟩ := he; exact ⟨hc, hk⟩)) | (obtain ⟨rfl, _⟩ := he; subst_vars; simpa using hk) | (simp only [*, if_true]; first | (obtain ⟨rfl, _⟩ := he; exact hk) | (obtain ⟨hc, rfl, _⟩ := he; exact ⟨hc, hk⟩) | (simp only [ZAP] at he ⊢; (obtain ⟨rfl, _⟩ := he; exact hk)) | (simp only [ZAK] at he ⊢; (obtain ⟨hc, rfl, _⟩ := he; exact ⟨hc, hk⟩)) | (simp only [ZAL] at he ⊢; (obtain ⟨hc, rfl, _⟩ := he; exact ⟨hc, hk⟩)) | (simp only [ZAM] at he ⊢; (obtain ⟨hc, rfl, _⟩ := he; exact ⟨hc, hk⟩)) | (simp only [ZAN] at he ⊢; (obtain ⟨hc, rfl, _⟩ := he; exact ⟨hc, hk⟩)))
 case mn k x y =>
  simp only [evI] at he ⊢
  (repeat' split at he) <;> first | exact he.elim | (obtain ⟨rfl, _⟩ := he; exact hk) | (obtain ⟨hc, rfl, _⟩ := he; exact ⟨hc, hk⟩) | (simp only [ZAP] at he ⊢; (obtain ⟨rfl, _⟩ := he; exact hk)) | (simp only [ZAK] at he ⊢; (obtain ⟨hc, rfl, _⟩ := he; exact ⟨hc, hk⟩)) | (simp only [ZAL] at he ⊢; (obtain ⟨hc, rfl, _⟩ := he; exact ⟨hc, hk⟩)) | (simp only [ZAM] at he ⊢; (obtain ⟨hc, rfl, _⟩ := he; exact ⟨hc, hk⟩)) | (simp only [ZAN] at he ⊢; (obtain ⟨hc, rfl, _⟩ := he; exact ⟨hc, hk⟩)) | (obtain ⟨rfl, _⟩ := he; subst_vars; simpa using hk) | (simp only [*, if_true]; first | (obtain ⟨rfl, _⟩ := he; exact hk) | (obtain ⟨hc, rfl, _⟩ := he; exact ⟨hc, hk⟩) | (simp only [ZAP] at he ⊢; (obtain ⟨rfl, _⟩ := he; exact hk)) | (simp only [ZAK] at he ⊢; (obtain ⟨hc, rfl, _⟩ := he; exact ⟨hc, hk⟩)) | (simp only [ZAL] at he ⊢; (obtain ⟨hc, rfl, _⟩ := he; exact ⟨hc, hk⟩)) | (simp only [ZAM] at he ⊢; (obtain ⟨hc, rfl, _⟩ := he; exact ⟨hc, hk⟩)) | (simp only [ZAN] at he ⊢; (obtain ⟨hc, rfl, _⟩ := he; exact ⟨hc, hk⟩)))
 case slc wd x lo up =>
  cases lo <;> cases up <;> simp only [evI] at he ⊢ <;> (repeat' split at he) <;> first | exact he.elim | (obtain ⟨rfl, _⟩ := he; exact hk) | (obtain ⟨hc, rfl, _⟩ := he; exact ⟨hc, hk⟩) | (simp only [ZAP] at he ⊢; (obtain ⟨rfl, _⟩ := he; exact hk)) | (simp only [ZAK] at he ⊢; (obtain ⟨hc, rfl, _⟩ := he; exact ⟨hc, hk⟩)) | (simp only [ZAL] at he ⊢; (obtain ⟨hc, rfl, _⟩ := he; exact ⟨hc, hk⟩)) | (simp only [ZAM] at he ⊢; (obtain ⟨hc, rfl, _⟩ := he; exact ⟨hc, hk⟩)) | (simp only [ZAN] at he ⊢; (obtain ⟨hc, rfl, _⟩ := he; exact ⟨hc, hk⟩)) | (obtain ⟨rfl, _⟩ := he; subst_vars; simpa using hk) | (simp only [*, if_true]; first | (obtain ⟨rfl, _⟩ := he; exact hk) | (obtain ⟨hc, rfl, _⟩ := he; exact ⟨hc, hk⟩) | (simp only [ZAP] at he ⊢; (obtain ⟨rfl, _⟩ := he; exact hk)) | (simp only [ZAK] at he ⊢; (obtain ⟨hc, rfl, _⟩ := he; exact ⟨hc, hk⟩)) | (simp only [ZAL] at he ⊢; (obtain ⟨hc, rfl, _⟩ := he; exact ⟨hc, hk⟩)) | (simp only [ZAM] at he ⊢; (obtain ⟨hc, rfl, _⟩ := he; exact ⟨hc, hk⟩)) | (simp only [ZAN] at he ⊢; (obtain ⟨hc, rfl, _⟩ := he; exact ⟨hc, hk⟩))) | (obtain ⟨v, ⟨rfl, _, _⟩, h2⟩ := ZGt he; first | exact h2 _ hk | (split <;> first | (exfalso; simp_all; done) | exact h2 _ hk))
 case slt x lo up =>
  cases lo <;> cases up <;> simp only [evI] at he ⊢ <;> (repeat' split at he) <;> first | exact he.elim | (obtain ⟨rfl, _⟩ := he; exact hk) | (obtain ⟨hc, rfl, _⟩ := he; exact ⟨hc, hk⟩) | (simp only [ZAP] at he ⊢; (obtain ⟨rfl, _⟩ := he; exact hk)) | (simp only [ZAK] at he ⊢; (obtain ⟨hc, rfl, _⟩ := he; exact ⟨hc, hk⟩)) | (simp only [ZAL] at he ⊢; (obtain ⟨hc, rfl, _⟩ := he; exact ⟨hc, hk⟩)) | (simp only [ZAM] at he ⊢; (obtain ⟨hc, rfl, _⟩ := he; exact ⟨hc, hk⟩)) | (simp only [ZAN] at he ⊢; (obtain ⟨hc, rfl, _⟩ := he; exact ⟨hc, hk⟩)) | (obtain ⟨rfl, _⟩ := he; subst_vars; simpa using hk) | (simp only [*, if_true]; first | (obtain ⟨rfl, _⟩ := he; exact hk) | (obtain ⟨hc, rfl, _⟩ := he; exact ⟨hc, hk⟩) | (simp only [ZAP] at he ⊢; (obtain ⟨rfl, _⟩ := he; exact hk)) | (simp only [ZAK] at he ⊢; (obtain ⟨hc, rfl, _⟩ := he; exact ⟨hc, hk⟩)) | (simp only [ZAL] at he ⊢; (obtain ⟨hc, rfl, _⟩ := he; exact ⟨hc, hk⟩)) | (simp only [ZAM] at he ⊢; (obtain ⟨hc, rfl, _⟩ := he; exact ⟨hc, hk⟩)) | (simp only [ZAN] at he ⊢; (obtain ⟨hc, rfl, _⟩ := he; exact ⟨hc, hk⟩)))
 case app wd bytes s x =>
  simp [ZCj] at hp
 case call f args =>
  simp [ZCj] at hp
 case callv fv args =>
  simp [ZCj] at hp
 case inv recv name args =>
  simp [ZCj] at hp
 case mki t x =>
  simp only [evI] at he ⊢
  (repeat' split at he) <;> first | exact he.elim | (obtain ⟨rfl, _⟩ := he; exact hk) | (obtain ⟨hc, rfl, _⟩ := he; exact ⟨hc, hk⟩) | (simp only [ZAP] at he ⊢; (obtain ⟨rfl, _⟩ := he; exact hk)) | (simp only [ZAK] at he ⊢; (obtain ⟨hc, rfl, _⟩ := he; exact ⟨hc, hk⟩)) | (simp only [ZAL] at he ⊢; (obtain ⟨hc, rfl, _⟩ := he; exact ⟨hc, hk⟩)) | (simp only [ZAM] at he ⊢; (obtain ⟨hc, rfl, _⟩ := he; exact ⟨hc, hk⟩)) | (simp only [ZAN] at he ⊢; (obtain ⟨hc, rfl, _⟩ := he; exact ⟨hc, hk⟩)) | (obtain ⟨rfl, _⟩ := he; subst_vars; simpa using hk) | (simp only [*, if_true]; first | (obtain ⟨rfl, _⟩ := he; exact hk) | (obtain ⟨hc, rfl, _⟩ := he; exact ⟨hc, hk⟩) | (simp only [ZAP] at he ⊢; (obtain ⟨rfl, _⟩ := he; exact hk)) | (simp only [ZAK] at he ⊢; (obtain ⟨hc, rfl, _⟩ := he; exact ⟨hc, hk⟩)) | (simp only [ZAL] at he ⊢; (obtain ⟨hc, rfl, _⟩ := he; exact ⟨hc, hk⟩)) | (simp only [ZAM] at he ⊢; (obtain ⟨hc, rfl, _⟩ := he; exact ⟨hc, hk⟩)) | (simp only [ZAN] at he ⊢; (obtain ⟨hc, rfl, _⟩ := he; exact ⟨hc, hk⟩)))
 case mkf f caps =>
  simp only [evI] at he ⊢
  (repeat' split at he) <;> first | exact he.elim | (obtain ⟨rfl, _⟩ := he; exact hk) | (obtain ⟨hc, rfl, _⟩ := he; exact ⟨hc, hk⟩) | (simp only [ZAP] at he ⊢; (obtain ⟨rfl, _⟩ := he; exact hk)) | (simp only [ZAK] at he ⊢; (obtain ⟨hc, rfl, _⟩ := he; exact ⟨hc, hk⟩)) | (simp only [ZAL] at he ⊢; (obtain ⟨hc, rfl, _⟩ := he; exact ⟨hc, hk⟩)) | (simp only [ZAM] at he ⊢; (obtain ⟨hc, rfl, _⟩ := he; exact ⟨hc, hk⟩)) | (simp only [ZAN] at he ⊢; (obtain ⟨hc, rfl, _⟩ := he; exact ⟨hc, hk⟩)) | (obtain ⟨rfl, _⟩ := he; subst_vars; simpa using hk) | (simp only [*, if_true]; first | (obtain ⟨rfl, _⟩ := he; exact hk) | (obtain ⟨hc, rfl, _⟩ := he; exact ⟨hc, hk⟩) | (simp only [ZAP] at he ⊢; (obtain ⟨rfl, _⟩ := he; exact hk)) | (simp only [ZAK] at he ⊢; (obtain ⟨hc, rfl, _⟩ := he; exact ⟨hc, hk⟩)) | (simp only [ZAL] at he ⊢; (obtain ⟨hc, rfl, _⟩ := he; exact ⟨hc, hk⟩)) | (simp only [ZAM] at he ⊢; (obtain ⟨hc, rfl, _⟩ := he; exact ⟨hc, hk⟩)) | (simp only [ZAN] at he ⊢; (obtain ⟨hc, rfl, _⟩ := he; exact ⟨hc, hk⟩)))
 case mp q qe op =>
  simp [ZCj] at hp
 case esc op =>
  simp [ZCj] at hp
end Go.Sx
