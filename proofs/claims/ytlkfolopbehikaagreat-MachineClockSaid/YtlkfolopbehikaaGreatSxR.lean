/- The symbolic walk, part R: regions that draw their order: one walk, in the order of the text, serves every order. -/
import Derived.Test.YtlkfolopbehikaaGreatSxQ
set_option linter.unusedSimpArgs false
set_option linter.unusedVariables false
set_option linter.unusedSectionVars false
namespace Go.Sx
open Go
def ZOD : List Operand -> List Nat
 | [] => []
 | .tmp t :: xs => t :: ZOD xs
 | _ :: xs => ZOD xs
def ZJw (op : Op) : List Nat := ZOD op.operands.toList
def lk : O -> List Nat
 | .r t => [t]
 | .c _ => []
def lkO : Option O -> List Nat
 | none => []
 | some x => lk x
def lkS : List O -> List Nat
 | [] => []
 | x :: xs => lk x ++ lkS xs
def lkP : List (Nat × Nat × O) -> List Nat
 | [] => []
 | x :: xs => lk x.2.2 ++ lkP xs
def lkM : MOp -> List Nat
 | .mk => []
 | .ln m => lk m
 | .lk m i => lk m ++ lk i
 | .dl m i => lk m ++ lk i
 | .en m i => lk m ++ lk i
 | .up m i v => lk m ++ lk i ++ lk v
 | .st m s v => lk m ++ lk s ++ lk v
def ZAY : I -> List Nat
 | .mov x => lk x
 | .pick c a b => lk c ++ lk a ++ lk b
 | .alloc _ => []
 | .box x => lk x
 | .ld x => lk x
 | .lda _ x => lk x
 | .sto _ a x => lk a ++ lk x
 | .nck x => lk x
 | .ar _ _ x y => lk x ++ lk y
 | .dv _ _ x y => lk x ++ lk y
 | .bt _ _ x y => lk x ++ lk y
 | .sh _ _ x y => lk x ++ lk y
 | .cmp _ _ x y => lk x ++ lk y
 | .eq _ _ x y => lk x ++ lk y
 | .eqa _ _ x y => lk x ++ lk y
 | .cat x y => lk x ++ lk y
 | .not x => lk x
 | .neg _ x => lk x
 | .conv _ x => lk x
 | .fa _ x => lk x
 | .ixs _ x i => lk x ++ lk i
 | .ixa _ _ x i => lk x ++ lk i
 | .ixt x i => lk x ++ lk i
 | .fld _ x => lk x
 | .flda _ _ x => lk x
 | .ext _ x => lk x
 | .bld _ parts => lkP parts
 | .bsl _ _ _ parts => lkP parts
 | .mks _ _ _ l c => lk l ++ lk c
 | .len x => lk x
 | .lens x => lk x
 | .mx _ x y => lk x ++ lk y
 | .mn _ x y => lk x ++ lk y
 | .slc _ x lo hi => lk x ++ lkO lo ++ lkO hi
 | .slt x lo hi => lk x ++ lkO lo ++ lkO hi
 | .app _ _ s x => lk s ++ lk x
 | .call _ args => lkS args
 | .callv fv args => lk fv ++ lkS args
 | .inv recv _ args => lk recv ++ lkS args
 | .mki _ x => lk x
 | .mkf _ caps => lkS caps
 | .mp _ _ op => lkM op
 | .esc op => ZJw op
def ZQ1 : MOp -> Bool
 | .ln _ => true
 | .lk _ _ => true
 | _ => false
def ZCM : I -> Bool
 | .mp _ _ op => ZQ1 op
 | .alloc .. => false
 | .box .. => false
 | .sto .. => false
 | .bsl .. => false
 | .mks .. => false
 | .app .. => false
 | .call .. => false
 | .callv .. => false
 | .inv .. => false
 | .esc .. => false
 | _ => true
def ZCp : I -> Bool
 | .mp .. => false
 | .alloc .. => false
 | .box .. => false
 | .ld .. => false
 | .lda .. => false
 | .sto .. => false
 | .bsl .. => false
 | .mks .. => false
 | .app .. => false
 | .call .. => false
 | .callv .. => false
 | .inv .. => false
 | .esc .. => false
 | _ => true
def ZCq : I -> Bool := fun _ => true
def restr (l : List Nat) (r : Regs) : Regs := r.filter fun p => l.any (Nat.beq p.1)
theorem ZBw (l : List Nat) : ∀ (r : Regs) (t : Nat), rget (restr l r) t = if t ∈ l then rget r t else none
 | [], t => by simp [restr, rget]
 | (t', x) :: r, t => by
  have ih := ZBw l r t
  unfold restr at ih ⊢
  rw [List.filter_cons]
  by_cases hm : t' ∈ l
  ·have : l.any (Nat.beq t') = true := List.any_eq_true.2 ⟨t', hm, Nat.beq_refl t'⟩
   simp only [this, if_true, ZBU, ih]
   by_cases e : t' = t
   ·subst e; simp [hm]
   ·simp [e]
  ·have : l.any (Nat.beq t') = false := by
    cases hq : l.any (Nat.beq t') with
    | false => rfl
    | true =>
     obtain ⟨y, h1, h2⟩ := List.any_eq_true.1 hq
     exact absurd (Nat.eq_of_beq_eq_true h2 ▸ h1) hm
   simp only [this, Bool.false_eq_true, if_false, ih, ZBU]
   by_cases e : t' = t
   ·subst e; simp [hm]
   ·simp [e]
structure CallD (G : Ctx) (f : FuncId) (xs : List AV) (h : Heap) (n : Nat) (K : SV -> Heap -> Nat -> Prop) : Prop where
 out :   ∃ x u n', CallP G f xs h n (fun x' u' m => x' = x /\ u' = u /\ m = n') /\ K x u n'
theorem ZF2 (G : Ctx) (f : FuncId) (xs : List AV) (h : Heap) (n : Nat) (K : SV -> Heap -> Nat -> Prop) : CallD G f xs h n K = (∃ x u n', CallP G f xs h n (fun x' u' m => x' = x /\ u' = u /\ m = n') /\ K x u n') := propext ⟨fun h => h.out, fun h => ⟨h⟩⟩
structure InvD (G : Ctx) (recv : AV) (name : String) (xs : List AV) (h : Heap) (n : Nat) (K : SV -> Heap -> Nat -> Prop) : Prop where
 out : ∃ x u n', InvP G recv name xs h n (fun x' u' m => x' = x /\ u' = u /\ m = n') /\ K x u n'
def EscR (G : Ctx) (op : Op) (r : Regs) (h : Heap) (n : Nat) (K : SV -> Heap -> Nat -> Prop) : Prop := EscP G op (restr (ZJw op) r) h n K
structure EscD (G : Ctx) (op : Op) (r : Regs) (h : Heap) (n : Nat) (K : SV -> Heap -> Nat -> Prop) : Prop where
 out : ∃ x u n', EscR G op r h n (fun x' u' m => x' = x /\ u' = u /\ m = n') /\ K x u n'
theorem EscP.congr {G : Ctx} {op : Op} {r r' : Regs} {h : Heap} {n : Nat} {K : SV -> Heap -> Nat -> Prop} (H : ∀ t, rget r t = rget r' t) : EscP G op r h n K = EscP G op r' h n K := by
 have one : ∀ {r r' : Regs}, (∀ t, rget r t = rget r' t) -> EscP G op r h n K -> EscP G op r' h n K := fun {r r'} H he => by
  rw [ZC3] at he ⊢
  exact fun G' hP o ρ φ a w ho g hr => he G' hP o ρ φ a w ho g fun t x hx => hr t x (by rw [<- H]; exact hx)
 exact propext ⟨one H, one fun t => (H t).symm⟩
theorem EscR.congr {G : Ctx} {op : Op} {r r' : Regs} (H : ∀ t ∈ ZJw op, rget r t = rget r' t) : EscR G op r = EscR G op r' := by
 funext h n K
 unfold EscR
 refine EscP.congr fun t => ?_
 rw [ZBw, ZBw]
 split
 ·exact H t (by assumption)
 ·rfl
theorem EscD.congr {G : Ctx} {op : Op} {r r' : Regs} (H : ∀ t ∈ ZJw op, rget r t = rget r' t) : EscD G op r = EscD G op r' := by
 funext h n K
 have e := EscR.congr (G := G) H
 exact propext ⟨fun ⟨x, u, n', h1, h2⟩ => ⟨x, u, n', by rw [<- e]; exact h1, h2⟩, fun ⟨x, u, n', h1, h2⟩ => ⟨x, u, n', by rw [e]; exact h1, h2⟩⟩
theorem EscR.out {G : Ctx} {op : Op} {r : Regs} {h : Heap} {n : Nat} {K : SV -> Heap -> Nat -> Prop} (he : EscR G op r h n K) : EscP G op r h n K := by
 unfold EscR at he
 rw [ZC3] at he ⊢
 exact fun G' hP o ρ φ a w ho g hr => he G' hP o ρ φ a w ho g fun t x hx => hr t x (by
  rw [ZBw] at hx
  split at hx
  ·exact hx
  ·cases hx)
theorem ZAK {r r' : Regs} {x : O} (h : ∀ t ∈ lk x, rget r t = rget r' t) : oget r x = oget r' x := by
 cases x with
 | r t => simp only [oget, h t (by simp [lk])]
 | c x => rfl
theorem ZDr {r r' : Regs} : ∀ {xs : List O}, (∀ t ∈ lkS xs, rget r t = rget r' t) -> ogets r xs = ogets r' xs
 | [], _ => rfl
 | x :: xs, h => by
  simp only [ogets, ZAK (x := x) fun t ht => h t (by simp [lkS, ht]), ZDr (xs := xs) fun t ht => h t (by simp [lkS, ht])]
theorem ZEq {r r' : Regs} : ∀ {xs : List (Nat × Nat × O)} (acc : Option (List LV)), (∀ t ∈ lkP xs, rget r t = rget r' t) -> xs.foldl (ZFr r) acc = xs.foldl (ZFr r') acc
 | [], _, _ => rfl
 | x :: xs, acc, h => by
  have e : ZFr r acc x = ZFr r' acc x := by simp only [ZFr, ZAK (x := x.2.2) fun t ht => h t (by simp [lkP, ht])]
  simp only [List.foldl, e]
  exact ZEq _ fun t ht => h t (by simp [lkP, ht])
theorem ZHa {α β : Type} {f f' : α -> β -> β} : ∀ {xs : List α} (acc : β), (∀ x ∈ xs, ∀ b, f x b = f' x b) -> xs.foldr f acc = xs.foldr f' acc
 | [], _, _ => rfl
 | x :: xs, acc, h => by
  simp only [List.foldr]
  rw [ZHa acc fun y hy => h y (by simp [hy]), h x (by simp)]
theorem ZQT {xs : List O} {x : O} (hx : x ∈ xs) : ∀ t ∈ lk x, t ∈ lkS xs := by
 induction xs with
 | nil => cases hx
 | cons y ys ih =>
  intro t ht
  rcases List.mem_cons.1 hx with rfl | hx
  ·simp [lkS, ht]
  ·simp [lkS, ih hx t ht]
section
variable {CP : FuncId -> List AV -> Heap -> Nat -> (SV -> Heap -> Nat -> Prop) -> Prop}
variable {IP : AV -> String -> List AV -> Heap -> Nat -> (SV -> Heap -> Nat -> Prop) -> Prop}
variable {EP : Op -> Regs -> Heap -> Nat -> (SV -> Heap -> Nat -> Prop) -> Prop}
theorem ZJx (hEP : ∀ op r r', (∀ t ∈ ZJw op, rget r t = rget r' t) -> EP op r = EP op r') {i : I} (hi : ZCq i = true) {r r' : Regs} (H : ∀ t ∈ ZAY i, rget r t = rget r' t) (h : Heap) (n : Nat) (K : SV -> Heap -> Nat -> Prop) : evI CP IP EP i r h n K = evI CP IP EP i r' h n K := by
 cases i
 case mov x =>
  cases x with
  | c y => simp only [evI, oget]
  | r t =>
   have ht : rget r t = rget r' t := H t (by simp [ZAY, lk])
   simp only [evI, oget, ht]
 case pick c a b => simp only [evI, ZAK (x := c) (fun t ht => H t (by simp [ZAY, ht])), ZAK (x := a) (fun t ht => H t (by simp [ZAY, ht])), ZAK (x := b) (fun t ht => H t (by simp [ZAY, ht]))]
 case alloc z => simp only [evI]
 case box x => simp only [evI, ZAK (x := x) (fun t ht => H t (by simp [ZAY, ht]))]
 case ld x => simp only [evI, ZAK (x := x) (fun t ht => H t (by simp [ZAY, ht]))]
 case lda m x => simp only [evI, ZAK (x := x) (fun t ht => H t (by simp [ZAY, ht]))]
 case sto m a x => simp only [evI, ZAK (x := a) (fun t ht => H t (by simp [ZAY, ht])), ZAK (x := x) (fun t ht => H t (by simp [ZAY, ht]))]
 case nck x => simp only [evI, ZAK (x := x) (fun t ht => H t (by simp [ZAY, ht]))]
 case ar op k x y => simp only [evI, ZAK (x := x) (fun t ht => H t (by simp [ZAY, ht])), ZAK (x := y) (fun t ht => H t (by simp [ZAY, ht]))]
 case dv op k x y => simp only [evI, ZAK (x := x) (fun t ht => H t (by simp [ZAY, ht])), ZAK (x := y) (fun t ht => H t (by simp [ZAY, ht]))]
 case bt op k x y => simp only [evI, ZAK (x := x) (fun t ht => H t (by simp [ZAY, ht])), ZAK (x := y) (fun t ht => H t (by simp [ZAY, ht]))]
 case sh op k x y => simp only [evI, ZAK (x := x) (fun t ht => H t (by simp [ZAY, ht])), ZAK (x := y) (fun t ht => H t (by simp [ZAY, ht]))]
 case cmp op k x y => simp only [evI, ZAK (x := x) (fun t ht => H t (by simp [ZAY, ht])), ZAK (x := y) (fun t ht => H t (by simp [ZAY, ht]))]
 case eq c neg x y => simp only [evI, ZAK (x := x) (fun t ht => H t (by simp [ZAY, ht])), ZAK (x := y) (fun t ht => H t (by simp [ZAY, ht]))]
 case eqa cs neg x y => simp only [evI, ZAK (x := x) (fun t ht => H t (by simp [ZAY, ht])), ZAK (x := y) (fun t ht => H t (by simp [ZAY, ht]))]
 case cat x y => simp only [evI, ZAK (x := x) (fun t ht => H t (by simp [ZAY, ht])), ZAK (x := y) (fun t ht => H t (by simp [ZAY, ht]))]
 case not x => simp only [evI, ZAK (x := x) (fun t ht => H t (by simp [ZAY, ht]))]
 case neg k x => simp only [evI, ZAK (x := x) (fun t ht => H t (by simp [ZAY, ht]))]
 case conv k x => simp only [evI, ZAK (x := x) (fun t ht => H t (by simp [ZAY, ht]))]
 case fa off x => simp only [evI, ZAK (x := x) (fun t ht => H t (by simp [ZAY, ht]))]
 case ixs wd x i => simp only [evI, ZAK (x := x) (fun t ht => H t (by simp [ZAY, ht])), ZAK (x := i) (fun t ht => H t (by simp [ZAY, ht]))]
 case ixa sz m x i => simp only [evI, ZAK (x := x) (fun t ht => H t (by simp [ZAY, ht])), ZAK (x := i) (fun t ht => H t (by simp [ZAY, ht]))]
 case ixt x i => simp only [evI, ZAK (x := x) (fun t ht => H t (by simp [ZAY, ht])), ZAK (x := i) (fun t ht => H t (by simp [ZAY, ht]))]
 case fld off x => simp only [evI, ZAK (x := x) (fun t ht => H t (by simp [ZAY, ht]))]
 case flda off m x => simp only [evI, ZAK (x := x) (fun t ht => H t (by simp [ZAY, ht]))]
 case ext j x =>
  cases x with
  | r t => simp only [evI, H t (by simp [ZAY, lk])]
  | c x => rfl
 case bld z parts => simp only [evI, ZEq (xs := parts) _ (fun t ht => H t (by simp [ZAY, ht]))]
 case bsl wd m z parts => simp only [evI, ZEq (xs := parts) _ (fun t ht => H t (by simp [ZAY, ht]))]
 case mks wd bytes z l c => simp only [evI, ZAK (x := l) (fun t ht => H t (by simp [ZAY, ht])), ZAK (x := c) (fun t ht => H t (by simp [ZAY, ht]))]
 case len x => simp only [evI, ZAK (x := x) (fun t ht => H t (by simp [ZAY, ht]))]
 case lens x => simp only [evI, ZAK (x := x) (fun t ht => H t (by simp [ZAY, ht]))]
 case mx k x y => simp only [evI, ZAK (x := x) (fun t ht => H t (by simp [ZAY, ht])), ZAK (x := y) (fun t ht => H t (by simp [ZAY, ht]))]
 case mn k x y => simp only [evI, ZAK (x := x) (fun t ht => H t (by simp [ZAY, ht])), ZAK (x := y) (fun t ht => H t (by simp [ZAY, ht]))]
 case slc wd x lo up =>
  have h1 := ZAK (x := x) (fun t ht => H t (by simp [ZAY, ht]))
  have h2 : ∀ y, lo = some y -> oget r y = oget r' y := fun y hy => ZAK fun t ht => H t (by simp [ZAY, lkO, hy, ht])
  have h3 : ∀ y, up = some y -> oget r y = oget r' y := fun y hy => ZAK fun t ht => H t (by simp [ZAY, lkO, hy, ht])
  have h4 : ∀ y K', slcX wd r y lo up K' = slcX wd r' y lo up K' := fun y K' => by
   unfold slcX
   cases lo <;> cases up <;> (try dsimp only) <;> (try simp only [h2 _ rfl]) <;> (try simp only [h3 _ rfl])
  cases lo <;> cases up <;> simp only [evI, h1, h4] <;> (try simp only [h2 _ rfl]) <;> (try simp only [h3 _ rfl])
 case slt x lo up =>
  have h1 := ZAK (x := x) (fun t ht => H t (by simp [ZAY, ht]))
  have h2 : ∀ y, lo = some y -> oget r y = oget r' y := fun y hy => ZAK fun t ht => H t (by simp [ZAY, lkO, hy, ht])
  have h3 : ∀ y, up = some y -> oget r y = oget r' y := fun y hy => ZAK fun t ht => H t (by simp [ZAY, lkO, hy, ht])
  cases lo <;> cases up <;> simp only [evI, h1] <;> (try simp only [h2 _ rfl]) <;> (try simp only [h3 _ rfl])
 case app wd bytes s x => simp only [evI, ZAK (x := s) (fun t ht => H t (by simp [ZAY, ht])), ZAK (x := x) (fun t ht => H t (by simp [ZAY, ht]))]
 case call f args => simp only [evI, ZDr (xs := args) (fun t ht => H t (by simp [ZAY, ht]))]
 case callv fv args => simp only [evI, ZAK (x := fv) (fun t ht => H t (by simp [ZAY, ht])), ZDr (xs := args) (fun t ht => H t (by simp [ZAY, ht]))]
 case inv recv name args => simp only [evI, ZAK (x := recv) (fun t ht => H t (by simp [ZAY, ht])), ZDr (xs := args) (fun t ht => H t (by simp [ZAY, ht]))]
 case mki t x => simp only [evI, ZAK (x := x) (fun t ht => H t (by simp [ZAY, ht]))]
 case mkf f caps =>
  simp only [evI]
  rw [ZHa]
  intro o ho acc
  simp only [ZAK (x := o) fun t ht => H t (ZQT ho t ht)]
 case mp q qe op =>
  cases op <;> simp only [evI, evM]
  case lk m i => simp only [ZAK (x := m) (fun t ht => H t (by simp [ZAY, lkM, ht])), ZAK (x := i) (fun t ht => H t (by simp [ZAY, lkM, ht]))]
  case up m i v => simp only [ZAK (x := m) (fun t ht => H t (by simp [ZAY, lkM, ht])), ZAK (x := i) (fun t ht => H t (by simp [ZAY, lkM, ht])), ZAK (x := v) (fun t ht => H t (by simp [ZAY, lkM, ht]))]
  case dl m i => simp only [ZAK (x := m) (fun t ht => H t (by simp [ZAY, lkM, ht])), ZAK (x := i) (fun t ht => H t (by simp [ZAY, lkM, ht]))]
  case ln m => simp only [ZAK (x := m) (fun t ht => H t (by simp [ZAY, lkM, ht]))]
  case en m i => simp only [ZAK (x := m) (fun t ht => H t (by simp [ZAY, lkM, ht])), ZAK (x := i) (fun t ht => H t (by simp [ZAY, lkM, ht]))]
  case st m s v => simp only [ZAK (x := m) (fun t ht => H t (by simp [ZAY, lkM, ht])), ZAK (x := s) (fun t ht => H t (by simp [ZAY, lkM, ht])), ZAK (x := v) (fun t ht => H t (by simp [ZAY, lkM, ht]))]
 case esc op => simp only [evI, hEP op r r' (fun t ht => H t (by simp [ZAY, ht]))]
end
theorem ZFI {kf kt : Prop} {b : Bool} (h : @Bool.rec (fun _ => Prop) kf kt b) : (b = true /\ kt) \/ (b = false /\ kf) := by cases b; exact .inr ⟨rfl, h⟩; exact .inl ⟨rfl, h⟩
theorem ZK2 {h : Heap} {k wd row col : Nat} {K : LV -> Prop} (he : ldAt h k wd row col K) : ∃ x, K x /\ ldAt h k wd row col (fun y => y = x) := by
 unfold ldAt at he ⊢
 split at he
 ·split at he
  ·exact ⟨_, he, by simp only [*]⟩
  ·exact he.elim
 ·split at he
  ·obtain ⟨h1, he⟩ := he
   split at he
   ·rw [ZA1] at he
    exact ⟨_, he, by simp only [*, ZA1, and_self]⟩
   ·exact he.elim
  ·exact he.elim
 ·split at he
  ·obtain ⟨h1, he⟩ := he
   split at he
   ·rw [ZA1] at he
    exact ⟨_, he, by simp only [*, ZA1, and_self]⟩
   ·exact he.elim
  ·exact he.elim
 ·split at he
  ·obtain ⟨⟨rfl, h1⟩, he⟩ := he
   exact ⟨_, he, by simp only [*, and_self]⟩
  ·exact he.elim
 ·exact he.elim
theorem ZLe {h : Heap} {k wd row col m : Nat} {K : List LV -> Prop} (he : ZET h k wd row col m K) : ∃ x, K x /\ ZET h k wd row col m (fun y => y = x) := by
 unfold ZET at he ⊢
 simp only [ZBz] at he ⊢
 split at he
 ·split at he
  ·exact ⟨_, he, by simp only [*]⟩
  ·exact he.elim
 ·split at he
  ·obtain ⟨h1, he⟩ := he
   split at he
   ·rw [ZB4] at he
    exact ⟨_, he, by simp only [*, ZB4, and_self]⟩
   ·exact he.elim
  ·exact he.elim
 ·split at he
  ·obtain ⟨h1, he⟩ := he
   split at he
   ·rw [ZB4] at he
    exact ⟨_, he, by simp only [*, ZB4, and_self]⟩
   ·exact he.elim
  ·exact he.elim
 ·exact he.elim
theorem ZQU {h : Heap} {k wd row col m : Nat} {x : AV} {K : Heap -> Prop} (he : stAt h k wd row col m x K) : ∃ u, K u /\ stAt h k wd row col m x (fun y => y = u) := by
 unfold stAt at he ⊢
 simp only [ZBz] at he ⊢
 split at he
 ·split at he
  ·split at he
   ·exact ⟨_, he, by simp only [*]⟩
   ·exact he.elim
  ·split at he
   ·obtain ⟨h1, he⟩ := he
    exact ⟨_, he, by simp only [*, and_self]⟩
   ·exact he.elim
  ·split at he
   ·split at he
    ·obtain ⟨⟨rfl, h1⟩, he⟩ := he
     rw [ZGX] at he
     exact ⟨_, he, by simp only [*, ZGX, and_self]⟩
    ·exact he.elim
   ·exact he.elim
  ·exact he.elim
 ·exact he.elim
theorem ZQV {h : Heap} {k wd row col : Nat} {K K' : LV -> Prop} (hk : ∀ x, K x -> K' x) (he : ldAt h k wd row col K) : ldAt h k wd row col K' := by
 obtain ⟨x, h1, h2⟩ := ZK2 he
 unfold ldAt at he ⊢
 split at he
 ·split at he
  ·exact hk _ he
  ·exact he.elim
 ·split at he
  ·refine ⟨he.1, ?_⟩
   have he := he.2
   split at he
   ·rw [ZA1] at he ⊢; exact hk _ he
   ·exact he.elim
  ·exact he.elim
 ·split at he
  ·refine ⟨he.1, ?_⟩
   have he := he.2
   split at he
   ·rw [ZA1] at he ⊢; exact hk _ he
   ·exact he.elim
  ·exact he.elim
 ·split at he
  ·exact ⟨he.1, hk _ he.2⟩
  ·exact he.elim
 ·exact he.elim
theorem ZO9 {h : Heap} {k wd row col m : Nat} {K K' : List LV -> Prop} (hk : ∀ x, K x -> K' x) (he : ZET h k wd row col m K) : ZET h k wd row col m K' := by
 unfold ZET at he ⊢
 simp only [ZBz] at he ⊢
 split at he
 ·split at he
  ·exact hk _ he
  ·exact he.elim
 ·split at he
  ·refine ⟨he.1, ?_⟩
   have he := he.2
   split at he
   ·rw [ZB4] at he ⊢; exact hk _ he
   ·exact he.elim
  ·exact he.elim
 ·split at he
  ·refine ⟨he.1, ?_⟩
   have he := he.2
   split at he
   ·rw [ZB4] at he ⊢; exact hk _ he
   ·exact he.elim
  ·exact he.elim
 ·exact he.elim
theorem ZQW {h : Heap} {k wd row col m : Nat} {x : AV} {K K' : Heap -> Prop} (hk : ∀ x, K x -> K' x) (he : stAt h k wd row col m x K) : stAt h k wd row col m x K' := by
 unfold stAt at he ⊢
 simp only [ZBz] at he ⊢
 split at he
 ·split at he
  ·split at he
   ·exact hk _ he
   ·exact he.elim
  ·split at he
   ·exact ⟨he.1, hk _ he.2⟩
   ·exact he.elim
  ·split at he
   ·split at he
    ·rw [ZGX] at he ⊢
     exact ⟨he.1, hk _ he.2⟩
    ·exact he.elim
   ·exact he.elim
  ·exact he.elim
 ·exact he.elim
theorem ZLf {h : Heap} {y : Option AV} {K : LV -> Prop} (he : ldX h y K) : ∃ v, K v /\ ∀ K' : LV -> Prop, K' v -> ldX h y K' := by
 unfold ldX ldDp at *
 split at he
 ·split at he
  ·split at he
   ·split at he
    ·obtain ⟨hrow, he⟩ := he
     split at he
     ·rw [ZA1] at he
      exact ⟨_, he, fun K' hk => by simp only [*, ZA1, true_and]⟩
     ·exact ⟨_, he, fun K' hk => by simp only [*, true_and]⟩
    ·exact he.elim
   ·exact he.elim
  ·exact he.elim
 ·split at he
  ·rw [ZA1] at he
   exact ⟨_, he, fun K' hk => by simp only [*, ZA1]⟩
  ·exact he.elim
 ·exact he.elim
theorem ZEr {k : Nat} {q : List (Nat × Nat)} {row : Nat} {f : Nat -> Nat -> DV} : ∀ (m col : Nat) {K' : List LV -> Prop}, K' ((List.range m).map fun j => dpLV k q row f (col + j)) -> ZEj k q row f col m K'
 | 0, col, K', he => he
 | m + 1, col, K', he => by
  simp only [ZEj]
  rw [List.range_succ_eq_map] at he
  simp only [List.map_cons, List.map_map, Nat.add_zero] at he
  have e : ((fun j => dpLV k q row f (col + j)) ∘ Nat.succ) = fun j => dpLV k q row f (col + 1 + j) := by
   funext j; simp only [Function.comp]; congr 1; omega
  rw [e] at he
  split
  ·rename_i x hx
   rw [ZA1]
   exact ZEr m (col + 1) (by simpa only [dpLV, hx] using he)
  ·rename_i wd2 n2 f2 hx
   exact ZEr m (col + 1) (by simpa only [dpLV, hx] using he)
theorem ZJy {h : Heap} {y : Option AV} {m : Nat} {K : List LV -> Prop} (he : ldsX h y m K) : ∃ v, K v /\ ∀ K' : List LV -> Prop, K' v -> ldsX h y m K' := by
 unfold ldsX ZOv at *
 split at he
 ·split at he
  ·split at he
   ·split at he
    ·obtain ⟨hrow, he⟩ := he
     exact ⟨_, ZDJ _ _ he, fun K' hk => by simp only [*, true_and]; exact ZEr _ _ hk⟩
    ·exact he.elim
   ·exact he.elim
  ·exact he.elim
 ·split at he
  ·rw [ZBz] at he
   exact ⟨_, he, fun K' hk => by simp only [*, ZBz]⟩
  ·exact he.elim
 ·exact he.elim
theorem ZEH {off : Nat} {y : Option AV} {K : LV -> Prop} (he : faX off y K) : ∃ v, K v /\ ∀ K' : LV -> Prop, K' v -> faX off y K' := by
 unfold faX at *
 split at he
 ·exact ⟨_, he, fun K' hk => hk⟩
 ·exact he.elim
theorem ZGq {wd : Nat} {y z : Option AV} {K : LV -> Prop} (he : ixsX wd y z K) : ∃ v, K v /\ ∀ K' : LV -> Prop, K' v -> ixsX wd y z K' := by
 unfold ixsX at *
 split at he
 ·split at he
  ·split at he
   ·rename_i hb
    obtain ⟨hc, he⟩ := he
    exact ⟨_, he, fun K' hk => ⟨hc, hk⟩⟩
   ·exact he.elim
  ·exact he.elim
 ·split at he
  ·obtain ⟨hc, he⟩ := he
   exact ⟨_, he, fun K' hk => ⟨hc, hk⟩⟩
  ·exact he.elim
 ·exact he.elim
theorem ZGr {sz m : Nat} {y z : Option AV} {K : LV -> Prop} (he : ixaX sz m y z K) : ∃ v, K v /\ ∀ K' : LV -> Prop, K' v -> ixaX sz m y z K' := by
 unfold ixaX at *
 split at he
 ·split at he
  ·obtain ⟨hc, he⟩ := he
   exact ⟨_, he, fun K' hk => ⟨hc, hk⟩⟩
  ·exact he.elim
 ·exact he.elim
theorem ZGs {y : Option AV} {K : Int -> Prop} (he : lenX y K) : ∃ v, K v /\ ∀ K' : Int -> Prop, K' v -> lenX y K' := by
 unfold lenX at *
 split at he
 ·exact ⟨_, he, fun K' hk => hk⟩
 ·exact he.elim
theorem ZGt {wd : Nat} {r : Regs} {y : Option AV} {lo up : Option O} {K : LV -> Prop} (he : slcX wd r y lo up K) : ∃ v, K v /\ ∀ K' : LV -> Prop, K' v -> slcX wd r y lo up K' := by
 unfold slcX at *
 (repeat' split at he) <;> first | exact he.elim | exact ⟨_, he, fun K' hk => by simp only [*]⟩ | exact ⟨_, he.2, fun K' hk => by have := he.1; simp only [*, and_self, true_and]⟩ | skip
theorem ZEI {h : Heap} : ∀ (cs : List LV) {K : List DV -> Heap -> Prop}, ZIN h cs K -> ∃ ds dead, K ds dead /\ ∀ K' : List DV -> Heap -> Prop, K' ds dead -> ZIN h cs K'
 | [], K, he => ⟨[], [], he, fun K' hk => hk⟩
 | x :: cs, K, he => by
  unfold ZIN at he ⊢
  split at he
  ·rename_i heq; cases heq
  ·rename_i v xs heq
   cases heq
   obtain ⟨ds, dead, h1, h2⟩ := ZEI cs he
   exact ⟨_, _, h1, fun K' hk => h2 _ hk⟩
  ·rename_i k wd len xs heq
   cases heq
   split at he
   ·rename_i hk0
    split at he
    ·rename_i hb
     obtain ⟨hlen, he⟩ := he
     obtain ⟨ds, dead, h1, h2⟩ := ZEI cs he
     exact ⟨_, _, h1, fun K' hk => by simp only [hk0, hb]; exact ⟨hlen, h2 _ hk⟩⟩
    ·exact he.elim
   ·exact he.elim
  ·rename_i k wd len xs heq
   cases heq
   split at he
   ·rename_i hk0
    split at he
    ·rename_i hb
     obtain ⟨hlen, he⟩ := he
     obtain ⟨ds, dead, h1, h2⟩ := ZEI cs he
     exact ⟨_, _, h1, fun K' hk => by simp only [hk0, hb]; exact ⟨hlen, h2 _ hk⟩⟩
    ·exact he.elim
   ·exact he.elim
  ·exact he.elim
theorem ZOE {hp : Heap} {wd m nx : Nat} {cs : List LV} {o : Option (List Value)} {a b : Bool} {K : SV -> Heap -> Nat -> Prop} (he : bslX hp wd m nx cs o a b K) : ∃ x u n', K x u n' /\ ∀ K' : SV -> Heap -> Nat -> Prop, K' x u n' -> bslX hp wd m nx cs o a b K' := by
 unfold bslX at *
 split at he
 ·split at he
  ·split at he
   ·obtain ⟨ds, dead, h1, h2⟩ := ZEI cs he
    exact ⟨_, _, _, h1, fun K' hk => h2 _ hk⟩
   ·exact he.elim
  ·exact he.elim
 ·exact he.elim
theorem ZOF {hp : Heap} {wd bytes nx : Nat} {y : Option AV} {k2 : Nat} {q : List (Nat × Nat)} {wd2 row2 len2 : Nat} {K : SV -> Heap -> Nat -> Prop} (he : appF hp wd bytes nx y k2 q wd2 row2 len2 K) : ∃ x u n', K x u n' /\ ∀ K' : SV -> Heap -> Nat -> Prop, K' x u n' -> appF hp wd bytes nx y k2 q wd2 row2 len2 K' := by
 unfold appF at *
 (repeat' split at he) <;> first | exact he.elim | (obtain ⟨hc, he⟩ := he; refine ⟨_, _, _, he, fun K' hk => ?_⟩; clear he; revert hc hk; (try simp only [*]); exact fun hc hk => ⟨hc, hk⟩)
theorem ZOG {hp : Heap} {wd bytes nx : Nat} {y z : Option AV} {K : SV -> Heap -> Nat -> Prop} (he : appX hp wd bytes nx y z K) : ∃ x u n', K x u n' /\ ∀ K' : SV -> Heap -> Nat -> Prop, K' x u n' -> appX hp wd bytes nx y z K' := by
 unfold appX at *
 (repeat' split at he) <;> first | exact he.elim | exact ZOF he | (obtain ⟨hc, he⟩ := he; refine ⟨_, _, _, he, fun K' hk => ?_⟩; clear he; revert hc hk; (try simp only [*]); exact fun hc hk => ⟨hc, hk⟩)
theorem ZJz {G : Ctx} {i : I} (hi : ZCq i = true) {r : Regs} {h : Heap} {n : Nat} {K : SV -> Heap -> Nat -> Prop} (he : evI (CallD G) (InvD G) (EscD G) i r h n K) :
  ∃ x u n', K x u n' /\ evI (CallP G) (InvP G) (EscR G) i r h n (fun x' u' m => x' = x /\ u' = u /\ m = n') := by
 cases i
 case mov x =>
  simp only [evI] at he ⊢
  (repeat' split at he) <;> first | exact he.elim | exact ⟨_, _, _, he, by simp only [*, if_true, and_self]⟩ | (refine ⟨_, _, _, he.2, ?_⟩; have hc := he.1; clear he; revert hc; simp only [*, if_true, and_self, and_true] <;> exact fun hc => hc) | exact ⟨_, _, _, he, by simp only [*, if_true, and_self]⟩ | (refine ⟨_, _, _, he.2, ?_⟩; have hc := he.1; clear he; revert hc; simp only [*, if_true, and_self, and_true] <;> exact fun hc => hc)
 case pick c a b =>
  simp only [evI] at he ⊢
  split at he
  ·rcases ZFI he with ⟨rfl, hb⟩ | ⟨rfl, hb⟩ <;> clear he <;> split at hb <;> first | exact hb.elim | exact ⟨_, _, _, hb, by simp only [*, and_self]⟩
  ·exact he.elim
 case alloc z =>
  simp only [evI] at he ⊢
  exact ⟨_, _, _, he, rfl, rfl, rfl⟩
 case box x =>
  simp only [evI] at he ⊢
  (repeat' split at he) <;> first | exact he.elim | exact ⟨_, _, _, he, by simp only [*, if_true, and_self]⟩ | (refine ⟨_, _, _, he.2, ?_⟩; have hc := he.1; clear he; revert hc; simp only [*, if_true, and_self, and_true] <;> exact fun hc => hc) | exact ⟨_, _, _, he, by simp only [*, if_true, and_self]⟩ | (refine ⟨_, _, _, he.2, ?_⟩; have hc := he.1; clear he; revert hc; simp only [*, if_true, and_self, and_true] <;> exact fun hc => hc)
 case ld x =>
  simp only [evI] at he ⊢
  split at he
  ·obtain ⟨x, h1, h2⟩ := ZK2 he
   refine ⟨_, _, _, h1, ?_⟩
   simp only [*]
   exact ZQV (fun y hy => by subst hy; simp) h2
  ·obtain ⟨v, h1, h2⟩ := ZLf he; refine ⟨_, _, _, h1, ?_⟩; first | exact h2 _ ⟨rfl, rfl, rfl⟩ | (split <;> first | (exfalso; simp_all; done) | exact h2 _ ⟨rfl, rfl, rfl⟩)
 case lda m x =>
  simp only [evI] at he ⊢
  split at he
  ·obtain ⟨x, h1, h2⟩ := ZLe he
   refine ⟨_, _, _, h1, ?_⟩
   simp only [*]
   exact ZO9 (fun y hy => by subst hy; simp) h2
  ·obtain ⟨v, h1, h2⟩ := ZJy he; refine ⟨_, _, _, h1, ?_⟩; first | exact h2 _ ⟨rfl, rfl, rfl⟩ | (split <;> first | (exfalso; simp_all; done) | exact h2 _ ⟨rfl, rfl, rfl⟩)
 case sto m a x =>
  simp only [evI] at he ⊢
  split at he
  ·obtain ⟨x, h1, h2⟩ := ZQU he
   refine ⟨_, _, _, h1, ?_⟩
   simp only [*]
   exact ZQW (fun y hy => by subst hy; simp) h2
  ·exact he.elim
 case nck x =>
  simp only [evI] at he ⊢
  (repeat' split at he) <;> first | exact he.elim | exact ⟨_, _, _, he, by simp only [*, if_true, and_self]⟩ | (refine ⟨_, _, _, he.2, ?_⟩; have hc := he.1; clear he; revert hc; simp only [*, if_true, and_self, and_true] <;> exact fun hc => hc) | exact ⟨_, _, _, he, by simp only [*, if_true, and_self]⟩ | (refine ⟨_, _, _, he.2, ?_⟩; have hc := he.1; clear he; revert hc; simp only [*, if_true, and_self, and_true] <;> exact fun hc => hc) | (obtain ⟨v, h1, h2⟩ := ZEH he; refine ⟨_, _, _, h1, ?_⟩; first | exact h2 _ ⟨rfl, rfl, rfl⟩ | (split <;> first | (exfalso; simp_all; done) | exact h2 _ ⟨rfl, rfl, rfl⟩))
 case ar op k x y =>
  simp only [evI] at he ⊢
  (repeat' split at he) <;> first | exact he.elim | (rename_i hq; rw [ZAT] at he; refine ⟨_, _, _, he, ?_⟩; rw [hq]; rw [ZAT]; exact ⟨rfl, rfl, rfl⟩) | (simp only [*, if_true]; first | (simp only [ZAT] at he ⊢; exact ⟨_, _, _, he, rfl, rfl, rfl⟩) | (simp only [ZAO] at he ⊢; exact ⟨_, _, _, he.2, he.1, rfl, rfl, rfl⟩) | (simp only [ZAQ] at he ⊢; exact ⟨_, _, _, he.2, he.1, rfl, rfl, rfl⟩) | (simp only [ZAP] at he ⊢; exact ⟨_, _, _, he.2, he.1, rfl, rfl, rfl⟩) | (simp only [ZAR] at he ⊢; exact ⟨_, _, _, he.2, he.1, rfl, rfl, rfl⟩))
 case dv op k x y =>
  simp only [evI] at he ⊢
  (repeat' split at he) <;> first | exact he.elim | (rename_i hq; rw [ZAT] at he; refine ⟨_, _, _, he, ?_⟩; rw [hq]; rw [ZAT]; exact ⟨rfl, rfl, rfl⟩) | (simp only [*, if_true]; first | (simp only [ZAT] at he ⊢; exact ⟨_, _, _, he, rfl, rfl, rfl⟩) | (simp only [ZAO] at he ⊢; exact ⟨_, _, _, he.2, he.1, rfl, rfl, rfl⟩) | (simp only [ZAQ] at he ⊢; exact ⟨_, _, _, he.2, he.1, rfl, rfl, rfl⟩) | (simp only [ZAP] at he ⊢; exact ⟨_, _, _, he.2, he.1, rfl, rfl, rfl⟩) | (simp only [ZAR] at he ⊢; exact ⟨_, _, _, he.2, he.1, rfl, rfl, rfl⟩))
 case bt op k x y =>
  simp only [evI] at he ⊢
  (repeat' split at he) <;> first | exact he.elim | exact ⟨_, _, _, he, by simp only [*, if_true, and_self]⟩ | (refine ⟨_, _, _, he.2, ?_⟩; have hc := he.1; clear he; revert hc; simp only [*, if_true, and_self, and_true] <;> exact fun hc => hc) | exact ⟨_, _, _, he, by simp only [*, if_true, and_self]⟩ | (refine ⟨_, _, _, he.2, ?_⟩; have hc := he.1; clear he; revert hc; simp only [*, if_true, and_self, and_true] <;> exact fun hc => hc)
 case sh op k x y =>
  simp only [evI] at he ⊢
  (repeat' split at he) <;> first | exact he.elim | (rename_i hq; rw [ZAT] at he; refine ⟨_, _, _, he, ?_⟩; rw [hq]; rw [ZAT]; exact ⟨rfl, rfl, rfl⟩) | (simp only [*, if_true]; first | (simp only [ZAT] at he ⊢; exact ⟨_, _, _, he, rfl, rfl, rfl⟩) | (simp only [ZAO] at he ⊢; exact ⟨_, _, _, he.2, he.1, rfl, rfl, rfl⟩) | (simp only [ZAQ] at he ⊢; exact ⟨_, _, _, he.2, he.1, rfl, rfl, rfl⟩) | (simp only [ZAP] at he ⊢; exact ⟨_, _, _, he.2, he.1, rfl, rfl, rfl⟩) | (simp only [ZAR] at he ⊢; exact ⟨_, _, _, he.2, he.1, rfl, rfl, rfl⟩))
 case cmp op k x y =>
  simp only [evI] at he ⊢
  (repeat' split at he) <;> first | exact he.elim | exact ⟨_, _, _, he, by simp only [*, if_true, and_self]⟩ | (refine ⟨_, _, _, he.2, ?_⟩; have hc := he.1; clear he; revert hc; simp only [*, if_true, and_self, and_true] <;> exact fun hc => hc) | exact ⟨_, _, _, he, by simp only [*, if_true, and_self]⟩ | (refine ⟨_, _, _, he.2, ?_⟩; have hc := he.1; clear he; revert hc; simp only [*, if_true, and_self, and_true] <;> exact fun hc => hc)
 case eq c neg x y =>
  simp only [evI] at he ⊢
  (repeat' split at he) <;> first | exact he.elim | exact ⟨_, _, _, he, by simp only [*, if_true, and_self]⟩ | (refine ⟨_, _, _, he.2, ?_⟩; have hc := he.1; clear he; revert hc; simp only [*, if_true, and_self, and_true] <;> exact fun hc => hc) | exact ⟨_, _, _, he, by simp only [*, if_true, and_self]⟩ | (refine ⟨_, _, _, he.2, ?_⟩; have hc := he.1; clear he; revert hc; simp only [*, if_true, and_self, and_true] <;> exact fun hc => hc)
 case eqa cs neg x y =>
  simp only [evI] at he ⊢
  (repeat' split at he) <;> first | exact he.elim | exact ⟨_, _, _, he, by simp only [*, if_true, and_self]⟩ | (refine ⟨_, _, _, he.2, ?_⟩; have hc := he.1; clear he; revert hc; simp only [*, if_true, and_self, and_true] <;> exact fun hc => hc) | exact ⟨_, _, _, he, by simp only [*, if_true, and_self]⟩ | (refine ⟨_, _, _, he.2, ?_⟩; have hc := he.1; clear he; revert hc; simp only [*, if_true, and_self, and_true] <;> exact fun hc => hc)
 case cat x y =>
  simp only [evI] at he ⊢
  (repeat' split at he) <;> first | exact he.elim | exact ⟨_, _, _, he, by simp only [*, if_true, and_self]⟩ | (refine ⟨_, _, _, he.2, ?_⟩; have hc := he.1; clear he; revert hc; simp only [*, if_true, and_self, and_true] <;> exact fun hc => hc) | exact ⟨_, _, _, he, by simp only [*, if_true, and_self]⟩ | (refine ⟨_, _, _, he.2, ?_⟩; have hc := he.1; clear he; revert hc; simp only [*, if_true, and_self, and_true] <;> exact fun hc => hc)
 case not x =>
  simp only [evI] at he ⊢
  (repeat' split at he) <;> first | exact he.elim | exact ⟨_, _, _, he, by simp only [*, if_true, and_self]⟩ | (refine ⟨_, _, _, he.2, ?_⟩; have hc := he.1; clear he; revert hc; simp only [*, if_true, and_self, and_true] <;> exact fun hc => hc) | exact ⟨_, _, _, he, by simp only [*, if_true, and_self]⟩ | (refine ⟨_, _, _, he.2, ?_⟩; have hc := he.1; clear he; revert hc; simp only [*, if_true, and_self, and_true] <;> exact fun hc => hc)
 case neg k x =>
  simp only [evI] at he ⊢
  (repeat' split at he) <;> first | exact he.elim | (rename_i hq; rw [ZAT] at he; refine ⟨_, _, _, he, ?_⟩; rw [hq]; rw [ZAT]; exact ⟨rfl, rfl, rfl⟩) | (simp only [*, if_true]; first | (simp only [ZAT] at he ⊢; exact ⟨_, _, _, he, rfl, rfl, rfl⟩) | (simp only [ZAO] at he ⊢; exact ⟨_, _, _, he.2, he.1, rfl, rfl, rfl⟩) | (simp only [ZAQ] at he ⊢; exact ⟨_, _, _, he.2, he.1, rfl, rfl, rfl⟩) | (simp only [ZAP] at he ⊢; exact ⟨_, _, _, he.2, he.1, rfl, rfl, rfl⟩) | (simp only [ZAR] at he ⊢; exact ⟨_, _, _, he.2, he.1, rfl, rfl, rfl⟩))
 case conv k x =>
  simp only [evI] at he ⊢
  split at he
  ·rename_i hq
   rw [ZAT] at he
   refine ⟨_, _, _, he, ?_⟩
   rw [ZAT]
   simp
  ·exact he.elim
 case fa off x =>
  simp only [evI] at he ⊢
  (repeat' split at he) <;> first | exact he.elim | exact ⟨_, _, _, he, by simp only [*, if_true, and_self]⟩ | (refine ⟨_, _, _, he.2, ?_⟩; have hc := he.1; clear he; revert hc; simp only [*, if_true, and_self, and_true] <;> exact fun hc => hc) | exact ⟨_, _, _, he, by simp only [*, if_true, and_self]⟩ | (refine ⟨_, _, _, he.2, ?_⟩; have hc := he.1; clear he; revert hc; simp only [*, if_true, and_self, and_true] <;> exact fun hc => hc) | (obtain ⟨v, h1, h2⟩ := ZEH he; refine ⟨_, _, _, h1, ?_⟩; first | exact h2 _ ⟨rfl, rfl, rfl⟩ | (split <;> first | (exfalso; simp_all; done) | exact h2 _ ⟨rfl, rfl, rfl⟩))
 case ixs wd x i =>
  simp only [evI] at he ⊢
  (repeat' split at he) <;> first | exact he.elim | exact ⟨_, _, _, he, by simp only [*, if_true, and_self]⟩ | (refine ⟨_, _, _, he.2, ?_⟩; have hc := he.1; clear he; revert hc; simp only [*, if_true, and_self, and_true] <;> exact fun hc => hc) | exact ⟨_, _, _, he, by simp only [*, if_true, and_self]⟩ | (refine ⟨_, _, _, he.2, ?_⟩; have hc := he.1; clear he; revert hc; simp only [*, if_true, and_self, and_true] <;> exact fun hc => hc) | (obtain ⟨v, h1, h2⟩ := ZGq he; refine ⟨_, _, _, h1, ?_⟩; first | exact h2 _ ⟨rfl, rfl, rfl⟩ | (split <;> first | (exfalso; simp_all; done) | exact h2 _ ⟨rfl, rfl, rfl⟩))
 case ixa sz m x i =>
  simp only [evI] at he ⊢
  (repeat' split at he) <;> first | exact he.elim | exact ⟨_, _, _, he, by simp only [*, if_true, and_self]⟩ | (refine ⟨_, _, _, he.2, ?_⟩; have hc := he.1; clear he; revert hc; simp only [*, if_true, and_self, and_true] <;> exact fun hc => hc) | exact ⟨_, _, _, he, by simp only [*, if_true, and_self]⟩ | (refine ⟨_, _, _, he.2, ?_⟩; have hc := he.1; clear he; revert hc; simp only [*, if_true, and_self, and_true] <;> exact fun hc => hc) | (obtain ⟨v, h1, h2⟩ := ZGr he; refine ⟨_, _, _, h1, ?_⟩; first | exact h2 _ ⟨rfl, rfl, rfl⟩ | (split <;> first | (exfalso; simp_all; done) | exact h2 _ ⟨rfl, rfl, rfl⟩))
 case ixt x i =>
  simp only [evI] at he ⊢
  split at he
  ·obtain ⟨h1, h2⟩ := he
   exact ⟨_, _, _, h2, by simp only [*, and_self]⟩
  ·exact he.elim
 case fld off x =>
  simp only [evI] at he ⊢
  (repeat' split at he) <;> first | exact he.elim | exact ⟨_, _, _, he, by simp only [*, if_true, and_self]⟩ | (refine ⟨_, _, _, he.2, ?_⟩; have hc := he.1; clear he; revert hc; simp only [*, if_true, and_self, and_true] <;> exact fun hc => hc) | exact ⟨_, _, _, he, by simp only [*, if_true, and_self]⟩ | (refine ⟨_, _, _, he.2, ?_⟩; have hc := he.1; clear he; revert hc; simp only [*, if_true, and_self, and_true] <;> exact fun hc => hc)
 case flda off m x =>
  simp only [evI] at he ⊢
  (repeat' split at he) <;> first | exact he.elim | exact ⟨_, _, _, he, by simp only [*, if_true, and_self]⟩ | (refine ⟨_, _, _, he.2, ?_⟩; have hc := he.1; clear he; revert hc; simp only [*, if_true, and_self, and_true] <;> exact fun hc => hc) | exact ⟨_, _, _, he, by simp only [*, if_true, and_self]⟩ | (refine ⟨_, _, _, he.2, ?_⟩; have hc := he.1; clear he; revert hc; simp only [*, if_true, and_self, and_true] <;> exact fun hc => hc)
 case ext j x =>
  simp only [evI] at he ⊢
  (repeat' split at he) <;> first | exact he.elim | exact ⟨_, _, _, he, by simp only [*, if_true, and_self]⟩ | (refine ⟨_, _, _, he.2, ?_⟩; have hc := he.1; clear he; revert hc; simp only [*, if_true, and_self, and_true] <;> exact fun hc => hc) | exact ⟨_, _, _, he, by simp only [*, if_true, and_self]⟩ | (refine ⟨_, _, _, he.2, ?_⟩; have hc := he.1; clear he; revert hc; simp only [*, if_true, and_self, and_true] <;> exact fun hc => hc)
 case bld z parts =>
  simp only [evI, ZBz] at he ⊢
  (repeat' split at he) <;> first | exact he.elim | exact ⟨_, _, _, he, by simp only [*, if_true, and_self]⟩ | (refine ⟨_, _, _, he.2, ?_⟩; have hc := he.1; clear he; revert hc; simp only [*, if_true, and_self, and_true] <;> exact fun hc => hc) | exact ⟨_, _, _, he, by simp only [*, if_true, and_self]⟩ | (refine ⟨_, _, _, he.2, ?_⟩; have hc := he.1; clear he; revert hc; simp only [*, if_true, and_self, and_true] <;> exact fun hc => hc)
 case bsl wd m z parts =>
  simp only [evI] at he ⊢
  (repeat' split at he) <;> first | exact he.elim | exact ⟨_, _, _, he, by simp only [*, if_true, and_self]⟩ | (refine ⟨_, _, _, he.2, ?_⟩; have hc := he.1; clear he; revert hc; simp only [*, if_true, and_self, and_true] <;> exact fun hc => hc) | exact ⟨_, _, _, he, by simp only [*, if_true, and_self]⟩ | (refine ⟨_, _, _, he.2, ?_⟩; have hc := he.1; clear he; revert hc; simp only [*, if_true, and_self, and_true] <;> exact fun hc => hc) | (obtain ⟨x, u, n', h1, h2⟩ := ZOE he; refine ⟨_, _, _, h1, ?_⟩; (try simp only [*]); first | exact h2 _ ⟨rfl, rfl, rfl⟩ | (split <;> first | (exfalso; simp_all; done) | exact h2 _ ⟨rfl, rfl, rfl⟩))
 case mks wd bytes z l c =>
  simp only [evI] at he ⊢
  (repeat' split at he) <;> first | exact he.elim | exact ⟨_, _, _, he, by simp only [*, if_true, and_self]⟩ | (refine ⟨_, _, _, he.2, ?_⟩; have hc := he.1; clear he; revert hc; simp only [*, if_true, and_self, and_true] <;> exact fun hc => hc) | exact ⟨_, _, _, he, by simp only [*, if_true, and_self]⟩ | (refine ⟨_, _, _, he.2, ?_⟩; have hc := he.1; clear he; revert hc; simp only [*, if_true, and_self, and_true] <;> exact fun hc => hc)
 case len x =>
  simp only [evI] at he ⊢
  (repeat' split at he) <;> first | exact he.elim | exact ⟨_, _, _, he, by simp only [*, if_true, and_self]⟩ | (refine ⟨_, _, _, he.2, ?_⟩; have hc := he.1; clear he; revert hc; simp only [*, if_true, and_self, and_true] <;> exact fun hc => hc) | exact ⟨_, _, _, he, by simp only [*, if_true, and_self]⟩ | (refine ⟨_, _, _, he.2, ?_⟩; have hc := he.1; clear he; revert hc; simp only [*, if_true, and_self, and_true] <;> exact fun hc => hc) | (obtain ⟨v, h1, h2⟩ := ZGs he; refine ⟨_, _, _, h1, ?_⟩; first | exact h2 _ ⟨rfl, rfl, rfl⟩ | (split <;> first | (exfalso; simp_all; done) | exact h2 _ ⟨rfl, rfl, rfl⟩))
 case lens x =>
  simp only [evI] at he ⊢
  (repeat' split at he) <;> first | exact he.elim | exact ⟨_, _, _, he, by simp only [*, if_true, and_self]⟩ | (refine ⟨_, _, _, he.2, ?_⟩; have hc := he.1; clear he; revert hc; simp only [*, if_true, and_self, and_true] <;> exact fun hc => hc) | exact ⟨_, _, _, he, by simp only [*, if_true, and_self]⟩ | (refine ⟨_, _, _, he.2, ?_⟩; have hc := he.1; clear he; revert hc; simp only [*, if_true, and_self, and_true] <;> exact fun hc => hc)
 case mx k x y =>
  simp only [evI] at he ⊢
  (repeat' split at he) <;> first | exact he.elim | exact ⟨_, _, _, he, by simp only [*, if_true, and_self]⟩ | (refine ⟨_, _, _, he.2, ?_⟩; have hc := he.1; clear he; revert hc; simp only [*, if_true, and_self, and_true] <;> exact fun hc => hc) | exact ⟨_, _, _, he, by simp only [*, if_true, and_self]⟩ | (refine ⟨_, _, _, he.2, ?_⟩; have hc := he.1; clear he; revert hc; simp only [*, if_true, and_self, and_true] <;> exact fun hc => hc)
 case mn k x y =>
  simp only [evI] at he ⊢
  (repeat' split at he) <;> first | exact he.elim | exact ⟨_, _, _, he, by simp only [*, if_true, and_self]⟩ | (refine ⟨_, _, _, he.2, ?_⟩; have hc := he.1; clear he; revert hc; simp only [*, if_true, and_self, and_true] <;> exact fun hc => hc) | exact ⟨_, _, _, he, by simp only [*, if_true, and_self]⟩ | (refine ⟨_, _, _, he.2, ?_⟩; have hc := he.1; clear he; revert hc; simp only [*, if_true, and_self, and_true] <;> exact fun hc => hc)
 case slc wd x lo up =>
  cases lo <;> cases up <;> simp only [evI] at he ⊢ <;> (repeat' split at he) <;> first | exact he.elim | exact ⟨_, _, _, he, by simp only [*, and_self]⟩ | exact ⟨_, _, _, he.2, by simp only [*, and_self]⟩ | (obtain ⟨v, h1, h2⟩ := ZGt he; refine ⟨_, _, _, h1, ?_⟩; first | exact h2 _ ⟨rfl, rfl, rfl⟩ | (split <;> first | (exfalso; simp_all; done) | exact h2 _ ⟨rfl, rfl, rfl⟩))
 case slt x lo up =>
  cases lo <;> cases up <;> simp only [evI] at he ⊢ <;> (repeat' split at he) <;> first | exact he.elim | exact ⟨_, _, _, he, by simp only [*, and_self]⟩ | exact ⟨_, _, _, he.2, by simp only [*, and_self]⟩
 case app wd bytes s x =>
  simp only [evI] at he ⊢
  (repeat' split at he) <;> first | exact he.elim | exact ⟨_, _, _, he, by simp only [*, if_true, and_self]⟩ | (refine ⟨_, _, _, he.2, ?_⟩; have hc := he.1; clear he; revert hc; simp only [*, if_true, and_self, and_true] <;> exact fun hc => hc) | exact ⟨_, _, _, he, by simp only [*, if_true, and_self]⟩ | (refine ⟨_, _, _, he.2, ?_⟩; have hc := he.1; clear he; revert hc; simp only [*, if_true, and_self, and_true] <;> exact fun hc => hc) | (obtain ⟨x, u, n', h1, h2⟩ := ZOG he; refine ⟨_, _, _, h1, ?_⟩; first | exact h2 _ ⟨rfl, rfl, rfl⟩ | (split <;> first | (exfalso; simp_all; done) | exact h2 _ ⟨rfl, rfl, rfl⟩))
 case call f args =>
  simp only [evI] at he ⊢
  split at he
  ·simp only [ZFA, ZCU, ZBb] at he ⊢
   rw [ZF2] at he
   obtain ⟨x, u, n', h1, h2⟩ := he
   refine ⟨x, u, n', h2, ?_⟩
   simp_all only
  ·exact he.elim
 case callv fv args =>
  simp only [evI] at he ⊢
  split at he
  ·simp only [ZFA, ZCU, ZBb] at he ⊢
   rw [ZF2] at he
   obtain ⟨x, u, n', h1, h2⟩ := he
   refine ⟨x, u, n', h2, ?_⟩
   simp_all only
  ·simp only [ZFA, ZCU, ZBb] at he ⊢
   rw [ZF2] at he
   obtain ⟨x, u, n', h1, h2⟩ := he
   refine ⟨x, u, n', h2, ?_⟩
   simp_all only
  ·exact he.elim
 case inv recv name args =>
  simp only [evI] at he ⊢
  split at he
  ·simp only [ZFA, ZCU, ZBb] at he ⊢
   obtain ⟨x, u, n', h1, h2⟩ := he
   refine ⟨x, u, n', h2, ?_⟩
   simp_all only
  ·exact he.elim
 case mki t x =>
  simp only [evI] at he ⊢
  (repeat' split at he) <;> first | exact he.elim | exact ⟨_, _, _, he, by simp only [*, if_true, and_self]⟩ | (refine ⟨_, _, _, he.2, ?_⟩; have hc := he.1; clear he; revert hc; simp only [*, if_true, and_self, and_true] <;> exact fun hc => hc) | exact ⟨_, _, _, he, by simp only [*, if_true, and_self]⟩ | (refine ⟨_, _, _, he.2, ?_⟩; have hc := he.1; clear he; revert hc; simp only [*, if_true, and_self, and_true] <;> exact fun hc => hc)
 case mkf f caps =>
  simp only [evI] at he ⊢
  (repeat' split at he) <;> first | exact he.elim | exact ⟨_, _, _, he, by simp only [*, if_true, and_self]⟩ | (refine ⟨_, _, _, he.2, ?_⟩; have hc := he.1; clear he; revert hc; simp only [*, if_true, and_self, and_true] <;> exact fun hc => hc) | exact ⟨_, _, _, he, by simp only [*, if_true, and_self]⟩ | (refine ⟨_, _, _, he.2, ?_⟩; have hc := he.1; clear he; revert hc; simp only [*, if_true, and_self, and_true] <;> exact fun hc => hc)
 case mp q qe op =>
  cases op <;> simp only [evI, evM] at he ⊢ <;> (repeat' first | (obtain ⟨nn, _, _, hK, hq⟩ := ZEF he; refine ⟨_, _, _, hK, ?_⟩; clear he; simp only [*, if_true]; exact hq _ (by first | exact ⟨rfl, rfl, rfl⟩ | simp)) | split at he) <;> first | exact he.elim | exact he.elim | exact ⟨_, _, _, he, by simp only [*, if_true, and_self]⟩ | exact ⟨_, _, _, he.2, by simp only [*, if_true, and_self, he.1]⟩ | (refine ⟨_, _, _, he.2, ?_⟩; have hc := he.1; clear he; simp only [*, if_true, and_self])
 case esc op =>
  simp only [evI] at he ⊢
  obtain ⟨x, u, n', h1, h2⟩ := he
  exact ⟨x, u, n', h2, h1⟩
theorem ZPR {G : Ctx} {i : I} (hi : ZCq i = true) (hp : ZCM i = true) {r : Regs} {h : Heap} {n : Nat} {x : SV} {u : Heap} {n' : Nat} (he : evI (CallP G) (InvP G) (EscR G) i r h n (fun x' u' m => x' = x /\ u' = u /\ m = n')) :
  u = [] /\ n' = n := by
 cases i
 case mov x =>
  simp only [evI] at he
  (repeat' split at he) <;> first | exact he.elim | exact ⟨he.2.1.symm, he.2.2.symm⟩ | exact ⟨he.2.2.1.symm, he.2.2.2.symm⟩ | (rw [ZAT] at he; exact ⟨he.2.1.symm, he.2.2.symm⟩) | (rw [ZAO] at he; exact ⟨he.2.2.1.symm, he.2.2.2.symm⟩) | (rw [ZAQ] at he; exact ⟨he.2.2.1.symm, he.2.2.2.symm⟩) | (rw [ZAP] at he; exact ⟨he.2.2.1.symm, he.2.2.2.symm⟩) | (rw [ZAR] at he; exact ⟨he.2.2.1.symm, he.2.2.2.symm⟩)
 case pick c a b =>
  simp only [evI] at he
  split at he
  ·rcases ZFI he with ⟨_, hb⟩ | ⟨_, hb⟩ <;> split at hb <;> first | exact hb.elim | exact ⟨hb.2.1.symm, hb.2.2.symm⟩
  ·exact he.elim
 case alloc z =>
  simp [ZCM] at hp
 case box x =>
  simp [ZCM] at hp
 case ld x =>
  simp only [evI] at he
  split at he
  ·obtain ⟨x, h1, h2⟩ := ZK2 he
   exact ⟨h1.2.1.symm, h1.2.2.symm⟩
  ·obtain ⟨v, h1, h2⟩ := ZLf he; exact ⟨h1.2.1.symm, h1.2.2.symm⟩
 case lda m x =>
  simp only [evI] at he
  split at he
  ·obtain ⟨x, h1, h2⟩ := ZLe he
   exact ⟨h1.2.1.symm, h1.2.2.symm⟩
  ·obtain ⟨v, h1, h2⟩ := ZJy he; exact ⟨h1.2.1.symm, h1.2.2.symm⟩
 case sto m a x =>
  simp [ZCM] at hp
 case nck x =>
  simp only [evI] at he
  (repeat' split at he) <;> first | exact he.elim | exact ⟨he.2.1.symm, he.2.2.symm⟩ | exact ⟨he.2.2.1.symm, he.2.2.2.symm⟩ | (rw [ZAT] at he; exact ⟨he.2.1.symm, he.2.2.symm⟩) | (rw [ZAO] at he; exact ⟨he.2.2.1.symm, he.2.2.2.symm⟩) | (rw [ZAQ] at he; exact ⟨he.2.2.1.symm, he.2.2.2.symm⟩) | (rw [ZAP] at he; exact ⟨he.2.2.1.symm, he.2.2.2.symm⟩) | (rw [ZAR] at he; exact ⟨he.2.2.1.symm, he.2.2.2.symm⟩) | (obtain ⟨v, h1, h2⟩ := ZEH he; exact ⟨h1.2.1.symm, h1.2.2.symm⟩)
 case ar op k x y =>
  simp only [evI] at he
  (repeat' split at he) <;> first | exact he.elim | exact ⟨he.2.1.symm, he.2.2.symm⟩ | exact ⟨he.2.2.1.symm, he.2.2.2.symm⟩ | (rw [ZAT] at he; exact ⟨he.2.1.symm, he.2.2.symm⟩) | (rw [ZAO] at he; exact ⟨he.2.2.1.symm, he.2.2.2.symm⟩) | (rw [ZAQ] at he; exact ⟨he.2.2.1.symm, he.2.2.2.symm⟩) | (rw [ZAP] at he; exact ⟨he.2.2.1.symm, he.2.2.2.symm⟩) | (rw [ZAR] at he; exact ⟨he.2.2.1.symm, he.2.2.2.symm⟩)
 case dv op k x y =>
  simp only [evI] at he
  (repeat' split at he) <;> first | exact he.elim | exact ⟨he.2.1.symm, he.2.2.symm⟩ | exact ⟨he.2.2.1.symm, he.2.2.2.symm⟩ | (rw [ZAT] at he; exact ⟨he.2.1.symm, he.2.2.symm⟩) | (rw [ZAO] at he; exact ⟨he.2.2.1.symm, he.2.2.2.symm⟩) | (rw [ZAQ] at he; exact ⟨he.2.2.1.symm, he.2.2.2.symm⟩) | (rw [ZAP] at he; exact ⟨he.2.2.1.symm, he.2.2.2.symm⟩) | (rw [ZAR] at he; exact ⟨he.2.2.1.symm, he.2.2.2.symm⟩)
 case bt op k x y =>
  simp only [evI] at he
  (repeat' split at he) <;> first | exact he.elim | exact ⟨he.2.1.symm, he.2.2.symm⟩ | exact ⟨he.2.2.1.symm, he.2.2.2.symm⟩ | (rw [ZAT] at he; exact ⟨he.2.1.symm, he.2.2.symm⟩) | (rw [ZAO] at he; exact ⟨he.2.2.1.symm, he.2.2.2.symm⟩) | (rw [ZAQ] at he; exact ⟨he.2.2.1.symm, he.2.2.2.symm⟩) | (rw [ZAP] at he; exact ⟨he.2.2.1.symm, he.2.2.2.symm⟩) | (rw [ZAR] at he; exact ⟨he.2.2.1.symm, he.2.2.2.symm⟩)
 case sh op k x y =>
  simp only [evI] at he
  (repeat' split at he) <;> first | exact he.elim | exact ⟨he.2.1.symm, he.2.2.symm⟩ | exact ⟨he.2.2.1.symm, he.2.2.2.symm⟩ | (rw [ZAT] at he; exact ⟨he.2.1.symm, he.2.2.symm⟩) | (rw [ZAO] at he; exact ⟨he.2.2.1.symm, he.2.2.2.symm⟩) | (rw [ZAQ] at he; exact ⟨he.2.2.1.symm, he.2.2.2.symm⟩) | (rw [ZAP] at he; exact ⟨he.2.2.1.symm, he.2.2.2.symm⟩) | (rw [ZAR] at he; exact ⟨he.2.2.1.symm, he.2.2.2.symm⟩)
 case cmp op k x y =>
  simp only [evI] at he
  (repeat' split at he) <;> first | exact he.elim | exact ⟨he.2.1.symm, he.2.2.symm⟩ | exact ⟨he.2.2.1.symm, he.2.2.2.symm⟩ | (rw [ZAT] at he; exact ⟨he.2.1.symm, he.2.2.symm⟩) | (rw [ZAO] at he; exact ⟨he.2.2.1.symm, he.2.2.2.symm⟩) | (rw [ZAQ] at he; exact ⟨he.2.2.1.symm, he.2.2.2.symm⟩) | (rw [ZAP] at he; exact ⟨he.2.2.1.symm, he.2.2.2.symm⟩) | (rw [ZAR] at he; exact ⟨he.2.2.1.symm, he.2.2.2.symm⟩)
 case eq c neg x y =>
  simp only [evI] at he
  (repeat' split at he) <;> first | exact he.elim | exact ⟨he.2.1.symm, he.2.2.symm⟩ | exact ⟨he.2.2.1.symm, he.2.2.2.symm⟩ | (rw [ZAT] at he; exact ⟨he.2.1.symm, he.2.2.symm⟩) | (rw [ZAO] at he; exact ⟨he.2.2.1.symm, he.2.2.2.symm⟩) | (rw [ZAQ] at he; exact ⟨he.2.2.1.symm, he.2.2.2.symm⟩) | (rw [ZAP] at he; exact ⟨he.2.2.1.symm, he.2.2.2.symm⟩) | (rw [ZAR] at he; exact ⟨he.2.2.1.symm, he.2.2.2.symm⟩)
 case eqa cs neg x y =>
  simp only [evI] at he
  (repeat' split at he) <;> first | exact he.elim | exact ⟨he.2.1.symm, he.2.2.symm⟩ | exact ⟨he.2.2.1.symm, he.2.2.2.symm⟩ | (rw [ZAT] at he; exact ⟨he.2.1.symm, he.2.2.symm⟩) | (rw [ZAO] at he; exact ⟨he.2.2.1.symm, he.2.2.2.symm⟩) | (rw [ZAQ] at he; exact ⟨he.2.2.1.symm, he.2.2.2.symm⟩) | (rw [ZAP] at he; exact ⟨he.2.2.1.symm, he.2.2.2.symm⟩) | (rw [ZAR] at he; exact ⟨he.2.2.1.symm, he.2.2.2.symm⟩)
 case cat x y =>
  simp only [evI] at he
  (repeat' split at he) <;> first | exact he.elim | exact ⟨he.2.1.symm, he.2.2.symm⟩ | exact ⟨he.2.2.1.symm, he.2.2.2.symm⟩ | (rw [ZAT] at he; exact ⟨he.2.1.symm, he.2.2.symm⟩) | (rw [ZAO] at he; exact ⟨he.2.2.1.symm, he.2.2.2.symm⟩) | (rw [ZAQ] at he; exact ⟨he.2.2.1.symm, he.2.2.2.symm⟩) | (rw [ZAP] at he; exact ⟨he.2.2.1.symm, he.2.2.2.symm⟩) | (rw [ZAR] at he; exact ⟨he.2.2.1.symm, he.2.2.2.symm⟩)
 case not x =>
  simp only [evI] at he
  (repeat' split at he) <;> first | exact he.elim | exact ⟨he.2.1.symm, he.2.2.symm⟩ | exact ⟨he.2.2.1.symm, he.2.2.2.symm⟩ | (rw [ZAT] at he; exact ⟨he.2.1.symm, he.2.2.symm⟩) | (rw [ZAO] at he; exact ⟨he.2.2.1.symm, he.2.2.2.symm⟩) | (rw [ZAQ] at he; exact ⟨he.2.2.1.symm, he.2.2.2.symm⟩) | (rw [ZAP] at he; exact ⟨he.2.2.1.symm, he.2.2.2.symm⟩) | (rw [ZAR] at he; exact ⟨he.2.2.1.symm, he.2.2.2.symm⟩)
 case neg k x =>
  simp only [evI] at he
  (repeat' split at he) <;> first | exact he.elim | exact ⟨he.2.1.symm, he.2.2.symm⟩ | exact ⟨he.2.2.1.symm, he.2.2.2.symm⟩ | (rw [ZAT] at he; exact ⟨he.2.1.symm, he.2.2.symm⟩) | (rw [ZAO] at he; exact ⟨he.2.2.1.symm, he.2.2.2.symm⟩) | (rw [ZAQ] at he; exact ⟨he.2.2.1.symm, he.2.2.2.symm⟩) | (rw [ZAP] at he; exact ⟨he.2.2.1.symm, he.2.2.2.symm⟩) | (rw [ZAR] at he; exact ⟨he.2.2.1.symm, he.2.2.2.symm⟩)
 case conv k x =>
  simp only [evI] at he
  (repeat' split at he) <;> first | exact he.elim | exact ⟨he.2.1.symm, he.2.2.symm⟩ | exact ⟨he.2.2.1.symm, he.2.2.2.symm⟩ | (rw [ZAT] at he; exact ⟨he.2.1.symm, he.2.2.symm⟩) | (rw [ZAO] at he; exact ⟨he.2.2.1.symm, he.2.2.2.symm⟩) | (rw [ZAQ] at he; exact ⟨he.2.2.1.symm, he.2.2.2.symm⟩) | (rw [ZAP] at he; exact ⟨he.2.2.1.symm, he.2.2.2.symm⟩) | (rw [ZAR] at he; exact ⟨he.2.2.1.symm, he.2.2.2.symm⟩)
 case fa off x =>
  simp only [evI] at he
  (repeat' split at he) <;> first | exact he.elim | exact ⟨he.2.1.symm, he.2.2.symm⟩ | exact ⟨he.2.2.1.symm, he.2.2.2.symm⟩ | (rw [ZAT] at he; exact ⟨he.2.1.symm, he.2.2.symm⟩) | (rw [ZAO] at he; exact ⟨he.2.2.1.symm, he.2.2.2.symm⟩) | (rw [ZAQ] at he; exact ⟨he.2.2.1.symm, he.2.2.2.symm⟩) | (rw [ZAP] at he; exact ⟨he.2.2.1.symm, he.2.2.2.symm⟩) | (rw [ZAR] at he; exact ⟨he.2.2.1.symm, he.2.2.2.symm⟩) | (obtain ⟨v, h1, h2⟩ := ZEH he; exact ⟨h1.2.1.symm, h1.2.2.symm⟩)
 case ixs wd x i =>
  simp only [evI] at he
  (repeat' split at he) <;> first | exact he.elim | exact ⟨he.2.1.symm, he.2.2.symm⟩ | exact ⟨he.2.2.1.symm, he.2.2.2.symm⟩ | (rw [ZAT] at he; exact ⟨he.2.1.symm, he.2.2.symm⟩) | (rw [ZAO] at he; exact ⟨he.2.2.1.symm, he.2.2.2.symm⟩) | (rw [ZAQ] at he; exact ⟨he.2.2.1.symm, he.2.2.2.symm⟩) | (rw [ZAP] at he; exact ⟨he.2.2.1.symm, he.2.2.2.symm⟩) | (rw [ZAR] at he; exact ⟨he.2.2.1.symm, he.2.2.2.symm⟩) | (obtain ⟨v, h1, h2⟩ := ZGq he; exact ⟨h1.2.1.symm, h1.2.2.symm⟩)
 case ixa sz m x i =>
  simp only [evI] at he
  (repeat' split at he) <;> first | exact he.elim | exact ⟨he.2.1.symm, he.2.2.symm⟩ | exact ⟨he.2.2.1.symm, he.2.2.2.symm⟩ | (rw [ZAT] at he; exact ⟨he.2.1.symm, he.2.2.symm⟩) | (rw [ZAO] at he; exact ⟨he.2.2.1.symm, he.2.2.2.symm⟩) | (rw [ZAQ] at he; exact ⟨he.2.2.1.symm, he.2.2.2.symm⟩) | (rw [ZAP] at he; exact ⟨he.2.2.1.symm, he.2.2.2.symm⟩) | (rw [ZAR] at he; exact ⟨he.2.2.1.symm, he.2.2.2.symm⟩) | (obtain ⟨v, h1, h2⟩ := ZGr he; exact ⟨h1.2.1.symm, h1.2.2.symm⟩)
 case ixt x i =>
  simp only [evI] at he
  split at he
  ·exact ⟨he.2.2.1.symm, he.2.2.2.symm⟩
  ·exact he.elim
 case fld off x =>
  simp only [evI] at he
  (repeat' split at he) <;> first | exact he.elim | exact ⟨he.2.1.symm, he.2.2.symm⟩ | exact ⟨he.2.2.1.symm, he.2.2.2.symm⟩ | (rw [ZAT] at he; exact ⟨he.2.1.symm, he.2.2.symm⟩) | (rw [ZAO] at he; exact ⟨he.2.2.1.symm, he.2.2.2.symm⟩) | (rw [ZAQ] at he; exact ⟨he.2.2.1.symm, he.2.2.2.symm⟩) | (rw [ZAP] at he; exact ⟨he.2.2.1.symm, he.2.2.2.symm⟩) | (rw [ZAR] at he; exact ⟨he.2.2.1.symm, he.2.2.2.symm⟩)
 case flda off m x =>
  simp only [evI] at he
  (repeat' split at he) <;> first | exact he.elim | exact ⟨he.2.1.symm, he.2.2.symm⟩ | exact ⟨he.2.2.1.symm, he.2.2.2.symm⟩ | (rw [ZAT] at he; exact ⟨he.2.1.symm, he.2.2.symm⟩) | (rw [ZAO] at he; exact ⟨he.2.2.1.symm, he.2.2.2.symm⟩) | (rw [ZAQ] at he; exact ⟨he.2.2.1.symm, he.2.2.2.symm⟩) | (rw [ZAP] at he; exact ⟨he.2.2.1.symm, he.2.2.2.symm⟩) | (rw [ZAR] at he; exact ⟨he.2.2.1.symm, he.2.2.2.symm⟩)
 case ext j x =>
  simp only [evI] at he
  (repeat' split at he) <;> first | exact he.elim | exact ⟨he.2.1.symm, he.2.2.symm⟩ | exact ⟨he.2.2.1.symm, he.2.2.2.symm⟩ | (rw [ZAT] at he; exact ⟨he.2.1.symm, he.2.2.symm⟩) | (rw [ZAO] at he; exact ⟨he.2.2.1.symm, he.2.2.2.symm⟩) | (rw [ZAQ] at he; exact ⟨he.2.2.1.symm, he.2.2.2.symm⟩) | (rw [ZAP] at he; exact ⟨he.2.2.1.symm, he.2.2.2.symm⟩) | (rw [ZAR] at he; exact ⟨he.2.2.1.symm, he.2.2.2.symm⟩)
 case bld z parts =>
  simp only [evI, ZBz] at he
  (repeat' split at he) <;> first | exact he.elim | exact ⟨he.2.1.symm, he.2.2.symm⟩ | exact ⟨he.2.2.1.symm, he.2.2.2.symm⟩ | (rw [ZAT] at he; exact ⟨he.2.1.symm, he.2.2.symm⟩) | (rw [ZAO] at he; exact ⟨he.2.2.1.symm, he.2.2.2.symm⟩) | (rw [ZAQ] at he; exact ⟨he.2.2.1.symm, he.2.2.2.symm⟩) | (rw [ZAP] at he; exact ⟨he.2.2.1.symm, he.2.2.2.symm⟩) | (rw [ZAR] at he; exact ⟨he.2.2.1.symm, he.2.2.2.symm⟩)
 case bsl wd m z parts =>
  simp [ZCM] at hp
 case mks wd bytes z l c =>
  simp [ZCM] at hp
 case len x =>
  simp only [evI] at he
  (repeat' split at he) <;> first | exact he.elim | exact ⟨he.2.1.symm, he.2.2.symm⟩ | exact ⟨he.2.2.1.symm, he.2.2.2.symm⟩ | (rw [ZAT] at he; exact ⟨he.2.1.symm, he.2.2.symm⟩) | (rw [ZAO] at he; exact ⟨he.2.2.1.symm, he.2.2.2.symm⟩) | (rw [ZAQ] at he; exact ⟨he.2.2.1.symm, he.2.2.2.symm⟩) | (rw [ZAP] at he; exact ⟨he.2.2.1.symm, he.2.2.2.symm⟩) | (rw [ZAR] at he; exact ⟨he.2.2.1.symm, he.2.2.2.symm⟩) | (obtain ⟨v, h1, h2⟩ := ZGs he; exact ⟨h1.2.1.symm, h1.2.2.symm⟩)
 case lens x =>
  simp only [evI] at he
  (repeat' split at he) <;> first | exact he.elim | exact ⟨he.2.1.symm, he.2.2.symm⟩ | exact ⟨he.2.2.1.symm, he.2.2.2.symm⟩ | (rw [ZAT] at he; exact ⟨he.2.1.symm, he.2.2.symm⟩) | (rw [ZAO] at he; exact ⟨he.2.2.1.symm, he.2.2.2.symm⟩) | (rw [ZAQ] at he; exact ⟨he.2.2.1.symm, he.2.2.2.symm⟩) | (rw [ZAP] at he; exact ⟨he.2.2.1.symm, he.2.2.2.symm⟩) | (rw [ZAR] at he; exact ⟨he.2.2.1.symm, he.2.2.2.symm⟩)
 case mx k x y =>
  simp only [evI] at he
  (repeat' split at he) <;> first | exact he.elim | exact ⟨he.2.1.symm, he.2.2.symm⟩ | exact ⟨he.2.2.1.symm, he.2.2.2.symm⟩ | (rw [ZAT] at he; exact ⟨he.2.1.symm, he.2.2.symm⟩) | (rw [ZAO] at he; exact ⟨he.2.2.1.symm, he.2.2.2.symm⟩) | (rw [ZAQ] at he; exact ⟨he.2.2.1.symm, he.2.2.2.symm⟩) | (rw [ZAP] at he; exact ⟨he.2.2.1.symm, he.2.2.2.symm⟩) | (rw [ZAR] at he; exact ⟨he.2.2.1.symm, he.2.2.2.symm⟩)
 case mn k x y =>
  simp only [evI] at he
  (repeat' split at he) <;> first | exact he.elim | exact ⟨he.2.1.symm, he.2.2.symm⟩ | exact ⟨he.2.2.1.symm, he.2.2.2.symm⟩ | (rw [ZAT] at he; exact ⟨he.2.1.symm, he.2.2.symm⟩) | (rw [ZAO] at he; exact ⟨he.2.2.1.symm, he.2.2.2.symm⟩) | (rw [ZAQ] at he; exact ⟨he.2.2.1.symm, he.2.2.2.symm⟩) | (rw [ZAP] at he; exact ⟨he.2.2.1.symm, he.2.2.2.symm⟩) | (rw [ZAR] at he; exact ⟨he.2.2.1.symm, he.2.2.2.symm⟩)
 case slc wd x lo up =>
  cases lo <;> cases up <;> simp only [evI] at he <;> (repeat' split at he) <;> first | exact he.elim | exact ⟨he.2.1.symm, he.2.2.symm⟩ | exact ⟨he.2.2.1.symm, he.2.2.2.symm⟩ | (rw [ZAT] at he; exact ⟨he.2.1.symm, he.2.2.symm⟩) | (rw [ZAO] at he; exact ⟨he.2.2.1.symm, he.2.2.2.symm⟩) | (rw [ZAQ] at he; exact ⟨he.2.2.1.symm, he.2.2.2.symm⟩) | (rw [ZAP] at he; exact ⟨he.2.2.1.symm, he.2.2.2.symm⟩) | (rw [ZAR] at he; exact ⟨he.2.2.1.symm, he.2.2.2.symm⟩) | (obtain ⟨v, h1, h2⟩ := ZGt he; exact ⟨h1.2.1.symm, h1.2.2.symm⟩)
 case slt x lo up =>
  cases lo <;> cases up <;> simp only [evI] at he <;> (repeat' split at he) <;> first | exact he.elim | exact ⟨he.2.1.symm, he.2.2.symm⟩ | exact ⟨he.2.2.1.symm, he.2.2.2.symm⟩ | (rw [ZAT] at he; exact ⟨he.2.1.symm, he.2.2.symm⟩) | (rw [ZAO] at he; exact ⟨he.2.2.1.symm, he.2.2.2.symm⟩) | (rw [ZAQ] at he; exact ⟨he.2.2.1.symm, he.2.2.2.symm⟩) | (rw [ZAP] at he; exact ⟨he.2.2.1.symm, he.2.2.2.symm⟩) | (rw [ZAR] at he; exact ⟨he.2.2.1.symm, he.2.2.2.symm⟩)
 case app wd bytes s x =>
  simp [ZCM] at hp
 case call f args =>
  simp [ZCM] at hp
 case callv fv args =>
  simp [ZCM] at hp
 case inv recv name args =>
  simp [ZCM] at hp
 case mki t x =>
  simp only [evI] at he
  (repeat' split at he) <;> first | exact he.elim | exact ⟨he.2.1.symm, he.2.2.symm⟩ | exact ⟨he.2.2.1.symm, he.2.2.2.symm⟩ | (rw [ZAT] at he; exact ⟨he.2.1.symm, he.2.2.symm⟩) | (rw [ZAO] at he; exact ⟨he.2.2.1.symm, he.2.2.2.symm⟩) | (rw [ZAQ] at he; exact ⟨he.2.2.1.symm, he.2.2.2.symm⟩) | (rw [ZAP] at he; exact ⟨he.2.2.1.symm, he.2.2.2.symm⟩) | (rw [ZAR] at he; exact ⟨he.2.2.1.symm, he.2.2.2.symm⟩)
 case mkf f caps =>
  simp only [evI] at he
  (repeat' split at he) <;> first | exact he.elim | exact ⟨he.2.1.symm, he.2.2.symm⟩ | exact ⟨he.2.2.1.symm, he.2.2.2.symm⟩ | (rw [ZAT] at he; exact ⟨he.2.1.symm, he.2.2.symm⟩) | (rw [ZAO] at he; exact ⟨he.2.2.1.symm, he.2.2.2.symm⟩) | (rw [ZAQ] at he; exact ⟨he.2.2.1.symm, he.2.2.2.symm⟩) | (rw [ZAP] at he; exact ⟨he.2.2.1.symm, he.2.2.2.symm⟩) | (rw [ZAR] at he; exact ⟨he.2.2.1.symm, he.2.2.2.symm⟩)
 case mp q qe op =>
  cases op <;> simp only [ZCM, ZQ1] at hp <;> first | (cases hp; done) | skip
  case ln m => simp only [evI, evM] at he; (repeat' split at he) <;> first | exact he.elim | exact ⟨he.2.1.symm, he.2.2.symm⟩
  case lk m i =>
   simp only [evI, evM] at he
   split at he
   ·split at he
    ·split at he
     ·split at he
      ·obtain ⟨_, _, _, hK, _⟩ := ZEF he; exact ⟨hK.2.1.symm, hK.2.2.symm⟩
      ·exact he.elim
     ·exact he.elim
    ·exact he.elim
   ·exact he.elim
 case esc op =>
  simp [ZCM] at hp
theorem ZPS {G : Ctx} {i : I} (hi : ZCq i = true) (hp : ZCp i = true) {r : Regs} {h : Heap} {n : Nat} {x : SV} {u : Heap} {n' : Nat} (he : evI (CallP G) (InvP G) (EscR G) i r h n (fun x' u' m => x' = x /\ u' = u /\ m = n')) (h2 : Heap) (n2 : Nat) {K : SV -> Heap -> Nat -> Prop} (hk : K x [] n2) :
  evI (CallP G) (InvP G) (EscR G) i r h2 n2 K := by
 cases i
 case mov x =>
  simp only [evI] at he ⊢
  (repeat' split at he) <;> first | exact he.elim | (obtain ⟨rfl, _⟩ := he; exact hk) | (obtain ⟨hc, rfl, _⟩ := he; exact ⟨hc, hk⟩) | (simp only [ZAT] at he ⊢; (obtain ⟨rfl, _⟩ := he; exact hk)) | (simp only [ZAO] at he ⊢; (obtain ⟨hc, rfl, _⟩ := he; exact ⟨hc, hk⟩)) | (simp only [ZAQ] at he ⊢; (obtain ⟨hc, rfl, _⟩ := he; exact ⟨hc, hk⟩)) | (simp only [ZAP] at he ⊢; (obtain ⟨hc, rfl, _⟩ := he; exact ⟨hc, hk⟩)) | (simp only [ZAR] at he ⊢; (obtain ⟨hc, rfl, _⟩ := he; exact ⟨hc, hk⟩)) | (obtain ⟨rfl, _⟩ := he; subst_vars; simpa using hk) | (simp only [*, if_true]; first | (obtain ⟨rfl, _⟩ := he; exact hk) | (obtain ⟨hc, rfl, _⟩ := he; exact ⟨hc, hk⟩) | (simp only [ZAT] at he ⊢; (obtain ⟨rfl, _⟩ := he; exact hk)) | (simp only [ZAO] at he ⊢; (obtain ⟨hc, rfl, _⟩ := he; exact ⟨hc, hk⟩)) | (simp only [ZAQ] at he ⊢; (obtain ⟨hc, rfl, _⟩ := he; exact ⟨hc, hk⟩)) | (simp only [ZAP] at he ⊢; (obtain ⟨hc, rfl, _⟩ := he; exact ⟨hc, hk⟩)) | (simp only [ZAR] at he ⊢; (obtain ⟨hc, rfl, _⟩ := he; exact ⟨hc, hk⟩)))
 case pick c a b =>
  simp only [evI] at he ⊢
  split at he
  ·rcases ZFI he with ⟨rfl, hb⟩ | ⟨rfl, hb⟩ <;> clear he <;> split at hb <;> first | exact hb.elim | (rename_i v hv; obtain ⟨rfl, _⟩ := hb; simpa [hv] using hk)
  ·exact he.elim
 case alloc z =>
  simp [ZCp] at hp
 case box x =>
  simp [ZCp] at hp
 case ld x =>
  simp [ZCp] at hp
 case lda m x =>
  simp [ZCp] at hp
 case sto m a x =>
  simp [ZCp] at hp
 case nck x =>
  simp only [evI] at he ⊢
  (repeat' split at he) <;> first | exact he.elim | (obtain ⟨rfl, _⟩ := he; exact hk) | (obtain ⟨hc, rfl, _⟩ := he; exact ⟨hc, hk⟩) | (simp only [ZAT] at he ⊢; (obtain ⟨rfl, _⟩ := he; exact hk)) | (simp only [ZAO] at he ⊢; (obtain ⟨hc, rfl, _⟩ := he; exact ⟨hc, hk⟩)) | (simp only [ZAQ] at he ⊢; (obtain ⟨hc, rfl, _⟩ := he; exact ⟨hc, hk⟩)) | (simp only [ZAP] at he ⊢; (obtain ⟨hc, rfl, _⟩ := he; exact ⟨hc, hk⟩)) | (simp only [ZAR] at he ⊢; (obtain ⟨hc, rfl, _⟩ := he; exact ⟨hc, hk⟩)) | (obtain ⟨rfl, _⟩ := he; subst_vars; simpa using hk) | (simp only [*, if_true]; first | (obtain ⟨rfl, _⟩ := he; exact hk) | (obtain ⟨hc, rfl, _⟩ := he; exact ⟨hc, hk⟩) | (simp only [ZAT] at he ⊢; (obtain ⟨rfl, _⟩ := he; exact hk)) | (simp only [ZAO] at he ⊢; (obtain ⟨hc, rfl, _⟩ := he; exact ⟨hc, hk⟩)) | (simp only [ZAQ] at he ⊢; (obtain ⟨hc, rfl, _⟩ := he; exact ⟨hc, hk⟩)) | (simp only [ZAP] at he ⊢; (obtain ⟨hc, rfl, _⟩ := he; exact ⟨hc, hk⟩)) | (simp only [ZAR] at he ⊢; (obtain ⟨hc, rfl, _⟩ := he; exact ⟨hc, hk⟩))) | (obtain ⟨v, ⟨rfl, _, _⟩, h2⟩ := ZEH he; first | exact h2 _ hk | (split <;> first | (exfalso; simp_all; done) | exact h2 _ hk))
 case ar op k x y =>
  simp only [evI] at he ⊢
  (repeat' split at he) <;> first | exact he.elim | (obtain ⟨rfl, _⟩ := he; exact hk) | (obtain ⟨hc, rfl, _⟩ := he; exact ⟨hc, hk⟩) | (simp only [ZAT] at he ⊢; (obtain ⟨rfl, _⟩ := he; exact hk)) | (simp only [ZAO] at he ⊢; (obtain ⟨hc, rfl, _⟩ := he; exact ⟨hc, hk⟩)) | (simp only [ZAQ] at he ⊢; (obtain ⟨hc, rfl, _⟩ := he; exact ⟨hc, hk⟩)) | (simp only [ZAP] at he ⊢; (obtain ⟨hc, rfl, _⟩ := he; exact ⟨hc, hk⟩)) | (simp only [ZAR] at he ⊢; (obtain ⟨hc, rfl, _⟩ := he; exact ⟨hc, hk⟩)) | (obtain ⟨rfl, _⟩ := he; subst_vars; simpa using hk) | (simp only [*, if_true]; first | (obtain ⟨rfl, _⟩ := he; exact hk) | (obtain ⟨hc, rfl, _⟩ := he; exact ⟨hc, hk⟩) | (simp only [ZAT] at he ⊢; (obtain ⟨rfl, _⟩ := he; exact hk)) | (simp only [ZAO] at he ⊢; (obtain ⟨hc, rfl, _⟩ := he; exact ⟨hc, hk⟩)) | (simp only [ZAQ] at he ⊢; (obtain ⟨hc, rfl, _⟩ := he; exact ⟨hc, hk⟩)) | (simp only [ZAP] at he ⊢; (obtain ⟨hc, rfl, _⟩ := he; exact ⟨hc, hk⟩)) | (simp only [ZAR] at he ⊢; (obtain ⟨hc, rfl, _⟩ := he; exact ⟨hc, hk⟩)))
 case dv op k x y =>
  simp only [evI] at he ⊢
  (repeat' split at he) <;> first | exact he.elim | (obtain ⟨rfl, _⟩ := he; exact hk) | (obtain ⟨hc, rfl, _⟩ := he; exact ⟨hc, hk⟩) | (simp only [ZAT] at he ⊢; (obtain ⟨rfl, _⟩ := he; exact hk)) | (simp only [ZAO] at he ⊢; (obtain ⟨hc, rfl, _⟩ := he; exact ⟨hc, hk⟩)) | (simp only [ZAQ] at he ⊢; (obtain ⟨hc, rfl, _⟩ := he; exact ⟨hc, hk⟩)) | (simp only [ZAP] at he ⊢; (obtain ⟨hc, rfl, _⟩ := he; exact ⟨hc, hk⟩)) | (simp only [ZAR] at he ⊢; (obtain ⟨hc, rfl, _⟩ := he; exact ⟨hc, hk⟩)) | (obtain ⟨rfl, _⟩ := he; subst_vars; simpa using hk) | (simp only [*, if_true]; first | (obtain ⟨rfl, _⟩ := he; exact hk) | (obtain ⟨hc, rfl, _⟩ := he; exact ⟨hc, hk⟩) | (simp only [ZAT] at he ⊢; (obtain ⟨rfl, _⟩ := he; exact hk)) | (simp only [ZAO] at he ⊢; (obtain ⟨hc, rfl, _⟩ := he; exact ⟨hc, hk⟩)) | (simp only [ZAQ] at he ⊢; (obtain ⟨hc, rfl, _⟩ := he; exact ⟨hc, hk⟩)) | (simp only [ZAP] at he ⊢; (obtain ⟨hc, rfl, _⟩ := he; exact ⟨hc, hk⟩)) | (simp only [ZAR] at he ⊢; (obtain ⟨hc, rfl, _⟩ := he; exact ⟨hc, hk⟩)))
 case bt op k x y =>
  simp only [evI] at he ⊢
  (repeat' split at he) <;> first | exact he.elim | (obtain ⟨rfl, _⟩ := he; exact hk) | (obtain ⟨hc, rfl, _⟩ := he; exact ⟨hc, hk⟩) | (simp only [ZAT] at he ⊢; (obtain ⟨rfl, _⟩ := he; exact hk)) | (simp only [ZAO] at he ⊢; (obtain ⟨hc, rfl, _⟩ := he; exact ⟨hc, hk⟩)) | (simp only [ZAQ] at he ⊢; (obtain ⟨hc, rfl, _⟩ := he; exact ⟨hc, hk⟩)) | (simp only [ZAP] at he ⊢; (obtain ⟨hc, rfl, _⟩ := he; exact ⟨hc, hk⟩)) | (simp only [ZAR] at he ⊢; (obtain ⟨hc, rfl, _⟩ := he; exact ⟨hc, hk⟩)) | (obtain ⟨rfl, _⟩ := he; subst_vars; simpa using hk) | (simp only [*, if_true]; first | (obtain ⟨rfl, _⟩ := he; exact hk) | (obtain ⟨hc, rfl, _⟩ := he; exact ⟨hc, hk⟩) | (simp only [ZAT] at he ⊢; (obtain ⟨rfl, _⟩ := he; exact hk)) | (simp only [ZAO] at he ⊢; (obtain ⟨hc, rfl, _⟩ := he; exact ⟨hc, hk⟩)) | (simp only [ZAQ] at he ⊢; (obtain ⟨hc, rfl, _⟩ := he; exact ⟨hc, hk⟩)) | (simp only [ZAP] at he ⊢; (obtain ⟨hc, rfl, _⟩ := he; exact ⟨hc, hk⟩)) | (simp only [ZAR] at he ⊢; (obtain ⟨hc, rfl, _⟩ := he; exact ⟨hc, hk⟩)))
 case sh op k x y =>
  simp only [evI] at he ⊢
  (repeat' split at he) <;> first | exact he.elim | (obtain ⟨rfl, _⟩ := he; exact hk) | (obtain ⟨hc, rfl, _⟩ := he; exact ⟨hc, hk⟩) | (simp only [ZAT] at he ⊢; (obtain ⟨rfl, _⟩ := he; exact hk)) | (simp only [ZAO] at he ⊢; (obtain ⟨hc, rfl, _⟩ := he; exact ⟨hc, hk⟩)) | (simp only [ZAQ] at he ⊢; (obtain ⟨hc, rfl, _⟩ := he; exact ⟨hc, hk⟩)) | (simp only [ZAP] at he ⊢; (obtain ⟨hc, rfl, _⟩ := he; exact ⟨hc, hk⟩)) | (simp only [ZAR] at he ⊢; (obtain ⟨hc, rfl, _⟩ := he; exact ⟨hc, hk⟩)) | (obtain ⟨rfl, _⟩ := he; subst_vars; simpa using hk) | (simp only [*, if_true]; first | (obtain ⟨rfl, _⟩ := he; exact hk) | (obtain ⟨hc, rfl, _⟩ := he; exact ⟨hc, hk⟩) | (simp only [ZAT] at he ⊢; (obtain ⟨rfl, _⟩ := he; exact hk)) | (simp only [ZAO] at he ⊢; (obtain ⟨hc, rfl, _⟩ := he; exact ⟨hc, hk⟩)) | (simp only [ZAQ] at he ⊢; (obtain ⟨hc, rfl, _⟩ := he; exact ⟨hc, hk⟩)) | (simp only [ZAP] at he ⊢; (obtain ⟨hc, rfl, _⟩ := he; exact ⟨hc, hk⟩)) | (simp only [ZAR] at he ⊢; (obtain ⟨hc, rfl, _⟩ := he; exact ⟨hc, hk⟩)))
 case cmp op k x y =>
  simp only [evI] at he ⊢
  (repeat' split at he) <;> first | exact he.elim | (obtain ⟨rfl, _⟩ := he; exact hk) | (obtain ⟨hc, rfl, _⟩ := he; exact ⟨hc, hk⟩) | (simp only [ZAT] at he ⊢; (obtain ⟨rfl, _⟩ := he; exact hk)) | (simp only [ZAO] at he ⊢; (obtain ⟨hc, rfl, _⟩ := he; exact ⟨hc, hk⟩)) | (simp only [ZAQ] at he ⊢; (obtain ⟨hc, rfl, _⟩ := he; exact ⟨hc, hk⟩)) | (simp only [ZAP] at he ⊢; (obtain ⟨hc, rfl, _⟩ := he; exact ⟨hc, hk⟩)) | (simp only [ZAR] at he ⊢; (obtain ⟨hc, rfl, _⟩ := he; exact ⟨hc, hk⟩)) | (obtain ⟨rfl, _⟩ := he; subst_vars; simpa using hk) | (simp only [*, if_true]; first | (obtain ⟨rfl, _⟩ := he; exact hk) | (obtain ⟨hc, rfl, _⟩ := he; exact ⟨hc, hk⟩) | (simp only [ZAT] at he ⊢; (obtain ⟨rfl, _⟩ := he; exact hk)) | (simp only [ZAO] at he ⊢; (obtain ⟨hc, rfl, _⟩ := he; exact ⟨hc, hk⟩)) | (simp only [ZAQ] at he ⊢; (obtain ⟨hc, rfl, _⟩ := he; exact ⟨hc, hk⟩)) | (simp only [ZAP] at he ⊢; (obtain ⟨hc, rfl, _⟩ := he; exact ⟨hc, hk⟩)) | (simp only [ZAR] at he ⊢; (obtain ⟨hc, rfl, _⟩ := he; exact ⟨hc, hk⟩)))
 case eq c neg x y =>
  simp only [evI] at he ⊢
  (repeat' split at he) <;> first | exact he.elim | (obtain ⟨rfl, _⟩ := he; exact hk) | (obtain ⟨hc, rfl, _⟩ := he; exact ⟨hc, hk⟩) | (simp only [ZAT] at he ⊢; (obtain ⟨rfl, _⟩ := he; exact hk)) | (simp only [ZAO] at he ⊢; (obtain ⟨hc, rfl, _⟩ := he; exact ⟨hc, hk⟩)) | (simp only [ZAQ] at he ⊢; (obtain ⟨hc, rfl, _⟩ := he; exact ⟨hc, hk⟩)) | (simp only [ZAP] at he ⊢; (obtain ⟨hc, rfl, _⟩ := he; exact ⟨hc, hk⟩)) | (simp only [ZAR] at he ⊢; (obtain ⟨hc, rfl, _⟩ := he; exact ⟨hc, hk⟩)) | (obtain ⟨rfl, _⟩ := he; subst_vars; simpa using hk) | (simp only [*, if_true]; first | (obtain ⟨rfl, _⟩ := he; exact hk) | (obtain ⟨hc, rfl, _⟩ := he; exact ⟨hc, hk⟩) | (simp only [ZAT] at he ⊢; (obtain ⟨rfl, _⟩ := he; exact hk)) | (simp only [ZAO] at he ⊢; (obtain ⟨hc, rfl, _⟩ := he; exact ⟨hc, hk⟩)) | (simp only [ZAQ] at he ⊢; (obtain ⟨hc, rfl, _⟩ := he; exact ⟨hc, hk⟩)) | (simp only [ZAP] at he ⊢; (obtain ⟨hc, rfl, _⟩ := he; exact ⟨hc, hk⟩)) | (simp only [ZAR] at he ⊢; (obtain ⟨hc, rfl, _⟩ := he; exact ⟨hc, hk⟩)))
 case eqa cs neg x y =>
  simp only [evI] at he ⊢
  (repeat' split at he) <;> first | exact he.elim | (obtain ⟨rfl, _⟩ := he; exact hk) | (obtain ⟨hc, rfl, _⟩ := he; exact ⟨hc, hk⟩) | (simp only [ZAT] at he ⊢; (obtain ⟨rfl, _⟩ := he; exact hk)) | (simp only [ZAO] at he ⊢; (obtain ⟨hc, rfl, _⟩ := he; exact ⟨hc, hk⟩)) | (simp only [ZAQ] at he ⊢; (obtain ⟨hc, rfl, _⟩ := he; exact ⟨hc, hk⟩)) | (simp only [ZAP] at he ⊢; (obtain ⟨hc, rfl, _⟩ := he; exact ⟨hc, hk⟩)) | (simp only [ZAR] at he ⊢; (obtain ⟨hc, rfl, _⟩ := he; exact ⟨hc, hk⟩)) | (obtain ⟨rfl, _⟩ := he; subst_vars; simpa using hk) | (simp only [*, if_true]; first | (obtain ⟨rfl, _⟩ := he; exact hk) | (obtain ⟨hc, rfl, _⟩ := he; exact ⟨hc, hk⟩) | (simp only [ZAT] at he ⊢; (obtain ⟨rfl, _⟩ := he; exact hk)) | (simp only [ZAO] at he ⊢; (obtain ⟨hc, rfl, _⟩ := he; exact ⟨hc, hk⟩)) | (simp only [ZAQ] at he ⊢; (obtain ⟨hc, rfl, _⟩ := he; exact ⟨hc, hk⟩)) | (simp only [ZAP] at he ⊢; (obtain ⟨hc, rfl, _⟩ := he; exact ⟨hc, hk⟩)) | (simp only [ZAR] at he ⊢; (obtain ⟨hc, rfl, _⟩ := he; exact ⟨hc, hk⟩)))
 case cat x y =>
  simp only [evI] at he ⊢
  (repeat' split at he) <;> first | exact he.elim | (obtain ⟨rfl, _⟩ := he; exact hk) | (obtain ⟨hc, rfl, _⟩ := he; exact ⟨hc, hk⟩) | (simp only [ZAT] at he ⊢; (obtain ⟨rfl, _⟩ := he; exact hk)) | (simp only [ZAO] at he ⊢; (obtain ⟨hc, rfl, _⟩ := he; exact ⟨hc, hk⟩)) | (simp only [ZAQ] at he ⊢; (obtain ⟨hc, rfl, _⟩ := he; exact ⟨hc, hk⟩)) | (simp only [ZAP] at he ⊢; (obtain ⟨hc, rfl, _⟩ := he; exact ⟨hc, hk⟩)) | (simp only [ZAR] at he ⊢; (obtain ⟨hc, rfl, _⟩ := he; exact ⟨hc, hk⟩)) | (obtain ⟨rfl, _⟩ := he; subst_vars; simpa using hk) | (simp only [*, if_true]; first | (obtain ⟨rfl, _⟩ := he; exact hk) | (obtain ⟨hc, rfl, _⟩ := he; exact ⟨hc, hk⟩) | (simp only [ZAT] at he ⊢; (obtain ⟨rfl, _⟩ := he; exact hk)) | (simp only [ZAO] at he ⊢; (obtain ⟨hc, rfl, _⟩ := he; exact ⟨hc, hk⟩)) | (simp only [ZAQ] at he ⊢; (obtain ⟨hc, rfl, _⟩ := he; exact ⟨hc, hk⟩)) | (simp only [ZAP] at he ⊢; (obtain ⟨hc, rfl, _⟩ := he; exact ⟨hc, hk⟩)) | (simp only [ZAR] at he ⊢; (obtain ⟨hc, rfl, _⟩ := he; exact ⟨hc, hk⟩)))
 case not x =>
  simp only [evI] at he ⊢
  (repeat' split at he) <;> first | exact he.elim | (obtain ⟨rfl, _⟩ := he; exact hk) | (obtain ⟨hc, rfl, _⟩ := he; exact ⟨hc, hk⟩) | (simp only [ZAT] at he ⊢; (obtain ⟨rfl, _⟩ := he; exact hk)) | (simp only [ZAO] at he ⊢; (obtain ⟨hc, rfl, _⟩ := he; exact ⟨hc, hk⟩)) | (simp only [ZAQ] at he ⊢; (obtain ⟨hc, rfl, _⟩ := he; exact ⟨hc, hk⟩)) | (simp only [ZAP] at he ⊢; (obtain ⟨hc, rfl, _⟩ := he; exact ⟨hc, hk⟩)) | (simp only [ZAR] at he ⊢; (obtain ⟨hc, rfl, _⟩ := he; exact ⟨hc, hk⟩)) | (obtain ⟨rfl, _⟩ := he; subst_vars; simpa using hk) | (simp only [*, if_true]; first | (obtain ⟨rfl, _⟩ := he; exact hk) | (obtain ⟨hc, rfl, _⟩ := he; exact ⟨hc, hk⟩) | (simp only [ZAT] at he ⊢; (obtain ⟨rfl, _⟩ := he; exact hk)) | (simp only [ZAO] at he ⊢; (obtain ⟨hc, rfl, _⟩ := he; exact ⟨hc, hk⟩)) | (simp only [ZAQ] at he ⊢; (obtain ⟨hc, rfl, _⟩ := he; exact ⟨hc, hk⟩)) | (simp only [ZAP] at he ⊢; (obtain ⟨hc, rfl, _⟩ := he; exact ⟨hc, hk⟩)) | (simp only [ZAR] at he ⊢; (obtain ⟨hc, rfl, _⟩ := he; exact ⟨hc, hk⟩)))
 case neg k x =>
  simp only [evI] at he ⊢
  (repeat' split at he) <;> first | exact he.elim | (obtain ⟨rfl, _⟩ := he; exact hk) | (obtain ⟨hc, rfl, _⟩ := he; exact ⟨hc, hk⟩) | (simp only [ZAT] at he ⊢; (obtain ⟨rfl, _⟩ := he; exact hk)) | (simp only [ZAO] at he ⊢; (obtain ⟨hc, rfl, _⟩ := he; exact ⟨hc, hk⟩)) | (simp only [ZAQ] at he ⊢; (obtain ⟨hc, rfl, _⟩ := he; exact ⟨hc, hk⟩)) | (simp only [ZAP] at he ⊢; (obtain ⟨hc, rfl, _⟩ := he; exact ⟨hc, hk⟩)) | (simp only [ZAR] at he ⊢; (obtain ⟨hc, rfl, _⟩ := he; exact ⟨hc, hk⟩)) | (obtain ⟨rfl, _⟩ := he; subst_vars; simpa using hk) | (simp only [*, if_true]; first | (obtain ⟨rfl, _⟩ := he; exact hk) | (obtain ⟨hc, rfl, _⟩ := he; exact ⟨hc, hk⟩) | (simp only [ZAT] at he ⊢; (obtain ⟨rfl, _⟩ := he; exact hk)) | (simp only [ZAO] at he ⊢; (obtain ⟨hc, rfl, _⟩ := he; exact ⟨hc, hk⟩)) | (simp only [ZAQ] at he ⊢; (obtain ⟨hc, rfl, _⟩ := he; exact ⟨hc, hk⟩)) | (simp only [ZAP] at he ⊢; (obtain ⟨hc, rfl, _⟩ := he; exact ⟨hc, hk⟩)) | (simp only [ZAR] at he ⊢; (obtain ⟨hc, rfl, _⟩ := he; exact ⟨hc, hk⟩)))
 case conv k x =>
  simp only [evI] at he ⊢
  (repeat' split at he) <;> first | exact he.elim | (obtain ⟨rfl, _⟩ := he; exact hk) | (obtain ⟨hc, rfl, _⟩ := he; exact ⟨hc, hk⟩) | (simp only [ZAT] at he ⊢; (obtain ⟨rfl, _⟩ := he; exact hk)) | (simp only [ZAO] at he ⊢; (obtain ⟨hc, rfl, _⟩ := he; exact ⟨hc, hk⟩)) | (simp only [ZAQ] at he ⊢; (obtain ⟨hc, rfl, _⟩ := he; exact ⟨hc, hk⟩)) | (simp only [ZAP] at he ⊢; (obtain ⟨hc, rfl, _⟩ := he; exact ⟨hc, hk⟩)) | (simp only [ZAR] at he ⊢; (obtain ⟨hc, rfl, _⟩ := he; exact ⟨hc, hk⟩)) | (obtain ⟨rfl, _⟩ := he; subst_vars; simpa using hk) | (simp only [*, if_true]; first | (obtain ⟨rfl, _⟩ := he; exact hk) | (obtain ⟨hc, rfl, _⟩ := he; exact ⟨hc, hk⟩) | (simp only [ZAT] at he ⊢; (obtain ⟨rfl, _⟩ := he; exact hk)) | (simp only [ZAO] at he ⊢; (obtain ⟨hc, rfl, _⟩ := he; exact ⟨hc, hk⟩)) | (simp only [ZAQ] at he ⊢; (obtain ⟨hc, rfl, _⟩ := he; exact ⟨hc, hk⟩)) | (simp only [ZAP] at he ⊢; (obtain ⟨hc, rfl, _⟩ := he; exact ⟨hc, hk⟩)) | (simp only [ZAR] at he ⊢; (obtain ⟨hc, rfl, _⟩ := he; exact ⟨hc, hk⟩)))
 case fa off x =>
  simp only [evI] at he ⊢
  (repeat' split at he) <;> first | exact he.elim | (obtain ⟨rfl, _⟩ := he; exact hk) | (obtain ⟨hc, rfl, _⟩ := he; exact ⟨hc, hk⟩) | (simp only [ZAT] at he ⊢; (obtain ⟨rfl, _⟩ := he; exact hk)) | (simp only [ZAO] at he ⊢; (obtain ⟨hc, rfl, _⟩ := he; exact ⟨hc, hk⟩)) | (simp only [ZAQ] at he ⊢; (obtain ⟨hc, rfl, _⟩ := he; exact ⟨hc, hk⟩)) | (simp only [ZAP] at he ⊢; (obtain ⟨hc, rfl, _⟩ := he; exact ⟨hc, hk⟩)) | (simp only [ZAR] at he ⊢; (obtain ⟨hc, rfl, _⟩ := he; exact ⟨hc, hk⟩)) | (obtain ⟨rfl, _⟩ := he; subst_vars; simpa using hk) | (simp only [*, if_true]; first | (obtain ⟨rfl, _⟩ := he; exact hk) | (obtain ⟨hc, rfl, _⟩ := he; exact ⟨hc, hk⟩) | (simp only [ZAT] at he ⊢; (obtain ⟨rfl, _⟩ := he; exact hk)) | (simp only [ZAO] at he ⊢; (obtain ⟨hc, rfl, _⟩ := he; exact ⟨hc, hk⟩)) | (simp only [ZAQ] at he ⊢; (obtain ⟨hc, rfl, _⟩ := he; exact ⟨hc, hk⟩)) | (simp only [ZAP] at he ⊢; (obtain ⟨hc, rfl, _⟩ := he; exact ⟨hc, hk⟩)) | (simp only [ZAR] at he ⊢; (obtain ⟨hc, rfl, _⟩ := he; exact ⟨hc, hk⟩))) | (obtain ⟨v, ⟨rfl, _, _⟩, h2⟩ := ZEH he; first | exact h2 _ hk | (split <;> first | (exfalso; simp_all; done) | exact h2 _ hk))
 case ixs wd x i =>
  simp only [evI] at he ⊢
  (repeat' split at he) <;> first | exact he.elim | (obtain ⟨rfl, _⟩ := he; exact hk) | (obtain ⟨hc, rfl, _⟩ := he; exact ⟨hc, hk⟩) | (simp only [ZAT] at he ⊢; (obtain ⟨rfl, _⟩ := he; exact hk)) | (simp only [ZAO] at he ⊢; (obtain ⟨hc, rfl, _⟩ := he; exact ⟨hc, hk⟩)) | (simp only [ZAQ] at he ⊢; (obtain ⟨hc, rfl, _⟩ := he; exact ⟨hc, hk⟩)) | (simp only [ZAP] at he ⊢; (obtain ⟨hc, rfl, _⟩ := he; exact ⟨hc, hk⟩)) | (simp only [ZAR] at he ⊢; (obtain ⟨hc, rfl, _⟩ := he; exact ⟨hc, hk⟩)) | (obtain ⟨rfl, _⟩ := he; subst_vars; simpa using hk) | (simp only [*, if_true]; first | (obtain ⟨rfl, _⟩ := he; exact hk) | (obtain ⟨hc, rfl, _⟩ := he; exact ⟨hc, hk⟩) | (simp only [ZAT] at he ⊢; (obtain ⟨rfl, _⟩ := he; exact hk)) | (simp only [ZAO] at he ⊢; (obtain ⟨hc, rfl, _⟩ := he; exact ⟨hc, hk⟩)) | (simp only [ZAQ] at he ⊢; (obtain ⟨hc, rfl, _⟩ := he; exact ⟨hc, hk⟩)) | (simp only [ZAP] at he ⊢; (obtain ⟨hc, rfl, _⟩ := he; exact ⟨hc, hk⟩)) | (simp only [ZAR] at he ⊢; (obtain ⟨hc, rfl, _⟩ := he; exact ⟨hc, hk⟩))) | (obtain ⟨v, ⟨rfl, _, _⟩, h2⟩ := ZGq he; first | exact h2 _ hk | (split <;> first | (exfalso; simp_all; done) | exact h2 _ hk))
 case ixa sz m x i =>
  simp only [evI] at he ⊢
  (repeat' split at he) <;> first | exact he.elim | (obtain ⟨rfl, _⟩ := he; exact hk) | (obtain ⟨hc, rfl, _⟩ := he; exact ⟨hc, hk⟩) | (simp only [ZAT] at he ⊢; (obtain ⟨rfl, _⟩ := he; exact hk)) | (simp only [ZAO] at he ⊢; (obtain ⟨hc, rfl, _⟩ := he; exact ⟨hc, hk⟩)) | (simp only [ZAQ] at he ⊢; (obtain ⟨hc, rfl, _⟩ := he; exact ⟨hc, hk⟩)) | (simp only [ZAP] at he ⊢; (obtain ⟨hc, rfl, _⟩ := he; exact ⟨hc, hk⟩)) | (simp only [ZAR] at he ⊢; (obtain ⟨hc, rfl, _⟩ := he; exact ⟨hc, hk⟩)) | (obtain ⟨rfl, _⟩ := he; subst_vars; simpa using hk) | (simp only [*, if_true]; first | (obtain ⟨rfl, _⟩ := he; exact hk) | (obtain ⟨hc, rfl, _⟩ := he; exact ⟨hc, hk⟩) | (simp only [ZAT] at he ⊢; (obtain ⟨rfl, _⟩ := he; exact hk)) | (simp only [ZAO] at he ⊢; (obtain ⟨hc, rfl, _⟩ := he; exact ⟨hc, hk⟩)) | (simp only [ZAQ] at he ⊢; (obtain ⟨hc, rfl, _⟩ := he; exact ⟨hc, hk⟩)) | (simp only [ZAP] at he ⊢; (obtain ⟨hc, rfl, _⟩ := he; exact ⟨hc, hk⟩)) | (simp only [ZAR] at he ⊢; (obtain ⟨hc, rfl, _⟩ := he; exact ⟨hc, hk⟩))) | (obtain ⟨v, ⟨rfl, _, _⟩, h2⟩ := ZGr he; first | exact h2 _ hk | (split <;> first | (exfalso; simp_all; done) | exact h2 _ hk))
 case ixt x i =>
  simp only [evI] at he ⊢
  split at he
  ·obtain ⟨hc, rfl, _⟩ := he
   exact ⟨hc, hk⟩
  ·exact he.elim
 case fld off x =>
  simp only [evI] at he ⊢
  (repeat' split at he) <;> first | exact he.elim | (obtain ⟨rfl, _⟩ := he; exact hk) | (obtain ⟨hc, rfl, _⟩ := he; exact ⟨hc, hk⟩) | (simp only [ZAT] at he ⊢; (obtain ⟨rfl, _⟩ := he; exact hk)) | (simp only [ZAO] at he ⊢; (obtain ⟨hc, rfl, _⟩ := he; exact ⟨hc, hk⟩)) | (simp only [ZAQ] at he ⊢; (obtain ⟨hc, rfl, _⟩ := he; exact ⟨hc, hk⟩)) | (simp only [ZAP] at he ⊢; (obtain ⟨hc, rfl, _⟩ := he; exact ⟨hc, hk⟩)) | (simp only [ZAR] at he ⊢; (obtain ⟨hc, rfl, _⟩ := he; exact ⟨hc, hk⟩)) | (obtain ⟨rfl, _⟩ := he; subst_vars; simpa using hk) | (simp only [*, if_true]; first | (obtain ⟨rfl, _⟩ := he; exact hk) | (obtain ⟨hc, rfl, _⟩ := he; exact ⟨hc, hk⟩) | (simp only [ZAT] at he ⊢; (obtain ⟨rfl, _⟩ := he; exact hk)) | (simp only [ZAO] at he ⊢; (obtain ⟨hc, rfl, _⟩ := he; exact ⟨hc, hk⟩)) | (simp only [ZAQ] at he ⊢; (obtain ⟨hc, rfl, _⟩ := he; exact ⟨hc, hk⟩)) | (simp only [ZAP] at he ⊢; (obtain ⟨hc, rfl, _⟩ := he; exact ⟨hc, hk⟩)) | (simp only [ZAR] at he ⊢; (obtain ⟨hc, rfl, _⟩ := he; exact ⟨hc, hk⟩)))
 case flda off m x =>
  simp only [evI] at he ⊢
  (repeat' split at he) <;> first | exact he.elim | (obtain ⟨rfl, _⟩ := he; exact hk) | (obtain ⟨hc, rfl, _⟩ := he; exact ⟨hc, hk⟩) | (simp only [ZAT] at he ⊢; (obtain ⟨rfl, _⟩ := he; exact hk)) | (simp only [ZAO] at he ⊢; (obtain ⟨hc, rfl, _⟩ := he; exact ⟨hc, hk⟩)) | (simp only [ZAQ] at he ⊢; (obtain ⟨hc, rfl, _⟩ := he; exact ⟨hc, hk⟩)) | (simp only [ZAP] at he ⊢; (obtain ⟨hc, rfl, _⟩ := he; exact ⟨hc, hk⟩)) | (simp only [ZAR] at he ⊢; (obtain ⟨hc, rfl, _⟩ := he; exact ⟨hc, hk⟩)) | (obtain ⟨rfl, _⟩ := he; subst_vars; simpa using hk) | (simp only [*, if_true]; first | (obtain ⟨rfl, _⟩ := he; exact hk) | (obtain ⟨hc, rfl, _⟩ := he; exact ⟨hc, hk⟩) | (simp only [ZAT] at he ⊢; (obtain ⟨rfl, _⟩ := he; exact hk)) | (simp only [ZAO] at he ⊢; (obtain ⟨hc, rfl, _⟩ := he; exact ⟨hc, hk⟩)) | (simp only [ZAQ] at he ⊢; (obtain ⟨hc, rfl, _⟩ := he; exact ⟨hc, hk⟩)) | (simp only [ZAP] at he ⊢; (obtain ⟨hc, rfl, _⟩ := he; exact ⟨hc, hk⟩)) | (simp only [ZAR] at he ⊢; (obtain ⟨hc, rfl, _⟩ := he; exact ⟨hc, hk⟩)))
 case ext j x =>
  simp only [evI] at he ⊢
  (repeat' split at he) <;> first | exact he.elim | (obtain ⟨rfl, _⟩ := he; exact hk) | (obtain ⟨hc, rfl, _⟩ := he; exact ⟨hc, hk⟩) | (simp only [ZAT] at he ⊢; (obtain ⟨rfl, _⟩ := he; exact hk)) | (simp only [ZAO] at he ⊢; (obtain ⟨hc, rfl, _⟩ := he; exact ⟨hc, hk⟩)) | (simp only [ZAQ] at he ⊢; (obtain ⟨hc, rfl, _⟩ := he; exact ⟨hc, hk⟩)) | (simp only [ZAP] at he ⊢; (obtain ⟨hc, rfl, _⟩ := he; exact ⟨hc, hk⟩)) | (simp only [ZAR] at he ⊢; (obtain ⟨hc, rfl, _⟩ := he; exact ⟨hc, hk⟩)) | (obtain ⟨rfl, _⟩ := he; subst_vars; simpa using hk) | (simp only [*, if_true]; first | (obtain ⟨rfl, _⟩ := he; exact hk) | (obtain ⟨hc, rfl, _⟩ := he; exact ⟨hc, hk⟩) | (simp only [ZAT] at he ⊢; (obtain ⟨rfl, _⟩ := he; exact hk)) | (simp only [ZAO] at he ⊢; (obtain ⟨hc, rfl, _⟩ := he; exact ⟨hc, hk⟩)) | (simp only [ZAQ] at he ⊢; (obtain ⟨hc, rfl, _⟩ := he; exact ⟨hc, hk⟩)) | (simp only [ZAP] at he ⊢; (obtain ⟨hc, rfl, _⟩ := he; exact ⟨hc, hk⟩)) | (simp only [ZAR] at he ⊢; (obtain ⟨hc, rfl, _⟩ := he; exact ⟨hc, hk⟩)))
 case bld z parts =>
  simp only [evI, ZBz] at he ⊢
  (repeat' split at he) <;> first | exact he.elim | (obtain ⟨rfl, _⟩ := he; exact hk) | (obtain ⟨hc, rfl, _⟩ := he; exact ⟨hc, hk⟩) | (simp only [ZAT] at he ⊢; (obtain ⟨rfl, _⟩ := he; exact hk)) | (simp only [ZAO] at he ⊢; (obtain ⟨hc, rfl, _⟩ := he; exact ⟨hc, hk⟩)) | (simp only [ZAQ] at he ⊢; (obtain ⟨hc, rfl, _⟩ := he; exact ⟨hc, hk⟩)) | (simp only [ZAP] at he ⊢; (obtain ⟨hc, rfl, _⟩ := he; exact ⟨hc, hk⟩)) | (simp only [ZAR] at he ⊢; (obtain ⟨hc, rfl, _⟩ := he; exact ⟨hc, hk⟩)) | (obtain ⟨rfl, _⟩ := he; subst_vars; simpa using hk) | (simp only [*, if_true]; first | (obtain ⟨rfl, _⟩ := he; exact hk) | (obtain ⟨hc, rfl, _⟩ := he; exact ⟨hc, hk⟩) | (simp only [ZAT] at he ⊢; (obtain ⟨rfl, _⟩ := he; exact hk)) | (simp only [ZAO] at he ⊢; (obtain ⟨hc, rfl, _⟩ := he; exact ⟨hc, hk⟩)) | (simp only [ZAQ] at he ⊢; (obtain ⟨hc, rfl, _⟩ := he; exact ⟨hc, hk⟩)) | (simp only [ZAP] at he ⊢; (obtain ⟨hc, rfl, _⟩ := he; exact ⟨hc, hk⟩)) | (simp only [ZAR] at he ⊢; (obtain ⟨hc, rfl, _⟩ := he; exact ⟨hc, hk⟩)))
 case bsl wd m z parts =>
  simp [ZCp] at hp
 case mks wd bytes z l c =>
  simp [ZCp] at hp
 case len x =>
  simp only [evI] at he ⊢
  (repeat' split at he) <;> first | exact he.elim | (obtain ⟨rfl, _⟩ := he; exact hk) | (obtain ⟨hc, rfl, _⟩ := he; exact ⟨hc, hk⟩) | (simp only [ZAT] at he ⊢; (obtain ⟨rfl, _⟩ := he; exact hk)) | (simp only [ZAO] at he ⊢; (obtain ⟨hc, rfl, _⟩ := he; exact ⟨hc, hk⟩)) | (simp only [ZAQ] at he ⊢; (obtain ⟨hc, rfl, _⟩ := he; exact ⟨hc, hk⟩)) | (simp only [ZAP] at he ⊢; (obtain ⟨hc, rfl, _⟩ := he; exact ⟨hc, hk⟩)) | (simp only [ZAR] at he ⊢; (obtain ⟨hc, rfl, _⟩ := he; exact ⟨hc, hk⟩)) | (obtain ⟨rfl, _⟩ := he; subst_vars; simpa using hk) | (simp only [*, if_true]; first | (obtain ⟨rfl, _⟩ := he; exact hk) | (obtain ⟨hc, rfl, _⟩ := he; exact ⟨hc, hk⟩) | (simp only [ZAT] at he ⊢; (obtain ⟨rfl, _⟩ := he; exact hk)) | (simp only [ZAO] at he ⊢; (obtain ⟨hc, rfl, _⟩ := he; exact ⟨hc, hk⟩)) | (simp only [ZAQ] at he ⊢; (obtain ⟨hc, rfl, _⟩ := he; exact ⟨hc, hk⟩)) | (simp only [ZAP] at he ⊢; (obtain ⟨hc, rfl, _⟩ := he; exact ⟨hc, hk⟩)) | (simp only [ZAR] at he ⊢; (obtain ⟨hc, rfl, _⟩ := he; exact ⟨hc, hk⟩))) | (obtain ⟨v, ⟨rfl, _, _⟩, h2⟩ := ZGs he; first | exact h2 _ hk | (split <;> first | (exfalso; simp_all; done) | exact h2 _ hk))
 case lens x =>
  simp only [evI] at he ⊢
  (repeat' split at he) <;> first | exact he.elim | (obtain ⟨rfl, _⟩ := he; exact hk) | (obtain ⟨hc, rfl, _⟩ := he; exact ⟨hc, hk⟩) | (simp only [ZAT] at he ⊢; (obtain ⟨rfl, _⟩ := he; exact hk)) | (simp only [ZAO] at he ⊢; (obtain ⟨hc, rfl, _⟩ := he; exact ⟨hc, hk⟩)) | (simp only [ZAQ] at he ⊢; (obtain ⟨hc, rfl, _⟩ := he; exact ⟨hc, hk⟩)) | (simp only [ZAP] at he ⊢; (obtain ⟨hc, rfl, _⟩ := he; exact ⟨hc, hk⟩)) | (simp only [ZAR] at he ⊢; (obtain ⟨hc, rfl, _⟩ := he; exact ⟨hc, hk⟩)) | (obtain ⟨rfl, _⟩ := he; subst_vars; simpa using hk) | (simp only [*, if_true]; first | (obtain ⟨rfl, _⟩ := he; exact hk) | (obtain ⟨hc, rfl, _⟩ := he; exact ⟨hc, hk⟩) | (simp only [ZAT] at he ⊢; (obtain ⟨rfl, _⟩ := he; exact hk)) | (simp only [ZAO] at he ⊢; (obtain ⟨hc, rfl, _⟩ := he; exact ⟨hc, hk⟩)) | (simp only [ZAQ] at he ⊢; (obtain ⟨hc, rfl, _⟩ := he; exact ⟨hc, hk⟩)) | (simp only [ZAP] at he ⊢; (obtain ⟨hc, rfl, _⟩ := he; exact ⟨hc, hk⟩)) | (simp only [ZAR] at he ⊢; (obtain ⟨hc, rfl, _⟩ := he; exact ⟨hc, hk⟩)))
 case mx k x y =>
  simp only [evI] at he ⊢
  (repeat' split at he) <;> first | exact he.elim | (obtain ⟨rfl, _⟩ := he; exact hk) | (obtain ⟨hc, rfl, _⟩ := he; exact ⟨hc, hk⟩) | (simp only [ZAT] at he ⊢; (obtain ⟨rfl, _⟩ := he; exact hk)) | (simp only [ZAO] at he ⊢; (obtain ⟨hc, rfl, _⟩ := he; exact ⟨hc, hk⟩)) | (simp only [ZAQ] at he ⊢; (obtain ⟨hc, rfl, _⟩ := he; exact ⟨hc, hk⟩)) | (simp only [ZAP] at he ⊢; (obtain ⟨hc, rfl, _⟩ := he; exact ⟨hc, hk⟩)) | (simp only [ZAR] at he ⊢; (obtain ⟨hc, rfl, _⟩ := he; exact ⟨hc, hk⟩)) | (obtain ⟨rfl, _⟩ := he; subst_vars; simpa using hk) | (simp only [*, if_true]; first | (obtain ⟨rfl, _⟩ := he; exact hk) | (obtain ⟨hc, rfl, _⟩ := he; exact ⟨hc, hk⟩) | (simp only [ZAT] at he ⊢; (obtain ⟨rfl, _⟩ := he; exact hk)) | (simp only [ZAO] at he ⊢; (obtain ⟨hc, rfl, _⟩ := he; exact ⟨hc, hk⟩)) | (simp only [ZAQ] at he ⊢; (obtain ⟨hc, rfl, _⟩ := he; exact ⟨hc, hk⟩)) | (simp only [ZAP] at he ⊢; (obtain ⟨hc, rfl, _⟩ := he; exact ⟨hc, hk⟩)) | (simp only [ZAR] at he ⊢; (obtain ⟨hc, rfl, _⟩ := he; exact ⟨hc, hk⟩)))
 case mn k x y =>
  simp only [evI] at he ⊢
  (repeat' split at he) <;> first | exact he.elim | (obtain ⟨rfl, _⟩ := he; exact hk) | (obtain ⟨hc, rfl, _⟩ := he; exact ⟨hc, hk⟩) | (simp only [ZAT] at he ⊢; (obtain ⟨rfl, _⟩ := he; exact hk)) | (simp only [ZAO] at he ⊢; (obtain ⟨hc, rfl, _⟩ := he; exact ⟨hc, hk⟩)) | (simp only [ZAQ] at he ⊢; (obtain ⟨hc, rfl, _⟩ := he; exact ⟨hc, hk⟩)) | (simp only [ZAP] at he ⊢; (obtain ⟨hc, rfl, _⟩ := he; exact ⟨hc, hk⟩)) | (simp only [ZAR] at he ⊢; (obtain ⟨hc, rfl, _⟩ := he; exact ⟨hc, hk⟩)) | (obtain ⟨rfl, _⟩ := he; subst_vars; simpa using hk) | (simp only [*, if_true]; first | (obtain ⟨rfl, _⟩ := he; exact hk) | (obtain ⟨hc, rfl, _⟩ := he; exact ⟨hc, hk⟩) | (simp only [ZAT] at he ⊢; (obtain ⟨rfl, _⟩ := he; exact hk)) | (simp only [ZAO] at he ⊢; (obtain ⟨hc, rfl, _⟩ := he; exact ⟨hc, hk⟩)) | (simp only [ZAQ] at he ⊢; (obtain ⟨hc, rfl, _⟩ := he; exact ⟨hc, hk⟩)) | (simp only [ZAP] at he ⊢; (obtain ⟨hc, rfl, _⟩ := he; exact ⟨hc, hk⟩)) | (simp only [ZAR] at he ⊢; (obtain ⟨hc, rfl, _⟩ := he; exact ⟨hc, hk⟩)))
 case slc wd x lo up =>
  cases lo <;> cases up <;> simp only [evI] at he ⊢ <;> (repeat' split at he) <;> first | exact he.elim | (obtain ⟨rfl, _⟩ := he; exact hk) | (obtain ⟨hc, rfl, _⟩ := he; exact ⟨hc, hk⟩) | (simp only [ZAT] at he ⊢; (obtain ⟨rfl, _⟩ := he; exact hk)) | (simp only [ZAO] at he ⊢; (obtain ⟨hc, rfl, _⟩ := he; exact ⟨hc, hk⟩)) | (simp only [ZAQ] at he ⊢; (obtain ⟨hc, rfl, _⟩ := he; exact ⟨hc, hk⟩)) | (simp only [ZAP] at he ⊢; (obtain ⟨hc, rfl, _⟩ := he; exact ⟨hc, hk⟩)) | (simp only [ZAR] at he ⊢; (obtain ⟨hc, rfl, _⟩ := he; exact ⟨hc, hk⟩)) | (obtain ⟨rfl, _⟩ := he; subst_vars; simpa using hk) | (simp only [*, if_true]; first | (obtain ⟨rfl, _⟩ := he; exact hk) | (obtain ⟨hc, rfl, _⟩ := he; exact ⟨hc, hk⟩) | (simp only [ZAT] at he ⊢; (obtain ⟨rfl, _⟩ := he; exact hk)) | (simp only [ZAO] at he ⊢; (obtain ⟨hc, rfl, _⟩ := he; exact ⟨hc, hk⟩)) | (simp only [ZAQ] at he ⊢; (obtain ⟨hc, rfl, _⟩ := he; exact ⟨hc, hk⟩)) | (simp only [ZAP] at he ⊢; (obtain ⟨hc, rfl, _⟩ := he; exact ⟨hc, hk⟩)) | (simp only [ZAR] at he ⊢; (obtain ⟨hc, rfl, _⟩ := he; exact ⟨hc, hk⟩))) | (obtain ⟨v, ⟨rfl, _, _⟩, h2⟩ := ZGt he; first | exact h2 _ hk | (split <;> first | (exfalso; simp_all; done) | exact h2 _ hk))
 case slt x lo up =>
  cases lo <;> cases up <;> simp only [evI] at he ⊢ <;> (repeat' split at he) <;> first | exact he.elim | (obtain ⟨rfl, _⟩ := he; exact hk) | (obtain ⟨hc, rfl, _⟩ := he; exact ⟨hc, hk⟩) | (simp only [ZAT] at he ⊢; (obtain ⟨rfl, _⟩ := he; exact hk)) | (simp only [ZAO] at he ⊢; (obtain ⟨hc, rfl, _⟩ := he; exact ⟨hc, hk⟩)) | (simp only [ZAQ] at he ⊢; (obtain ⟨hc, rfl, _⟩ := he; exact ⟨hc, hk⟩)) | (simp only [ZAP] at he ⊢; (obtain ⟨hc, rfl, _⟩ := he; exact ⟨hc, hk⟩)) | (simp only [ZAR] at he ⊢; (obtain ⟨hc, rfl, _⟩ := he; exact ⟨hc, hk⟩)) | (obtain ⟨rfl, _⟩ := he; subst_vars; simpa using hk) | (simp only [*, if_true]; first | (obtain ⟨rfl, _⟩ := he; exact hk) | (obtain ⟨hc, rfl, _⟩ := he; exact ⟨hc, hk⟩) | (simp only [ZAT] at he ⊢; (obtain ⟨rfl, _⟩ := he; exact hk)) | (simp only [ZAO] at he ⊢; (obtain ⟨hc, rfl, _⟩ := he; exact ⟨hc, hk⟩)) | (simp only [ZAQ] at he ⊢; (obtain ⟨hc, rfl, _⟩ := he; exact ⟨hc, hk⟩)) | (simp only [ZAP] at he ⊢; (obtain ⟨hc, rfl, _⟩ := he; exact ⟨hc, hk⟩)) | (simp only [ZAR] at he ⊢; (obtain ⟨hc, rfl, _⟩ := he; exact ⟨hc, hk⟩)))
 case app wd bytes s x =>
  simp [ZCp] at hp
 case call f args =>
  simp [ZCp] at hp
 case callv fv args =>
  simp [ZCp] at hp
 case inv recv name args =>
  simp [ZCp] at hp
 case mki t x =>
  simp only [evI] at he ⊢
  (repeat' split at he) <;> first | exact he.elim | (obtain ⟨rfl, _⟩ := he; exact hk) | (obtain ⟨hc, rfl, _⟩ := he; exact ⟨hc, hk⟩) | (simp only [ZAT] at he ⊢; (obtain ⟨rfl, _⟩ := he; exact hk)) | (simp only [ZAO] at he ⊢; (obtain ⟨hc, rfl, _⟩ := he; exact ⟨hc, hk⟩)) | (simp only [ZAQ] at he ⊢; (obtain ⟨hc, rfl, _⟩ := he; exact ⟨hc, hk⟩)) | (simp only [ZAP] at he ⊢; (obtain ⟨hc, rfl, _⟩ := he; exact ⟨hc, hk⟩)) | (simp only [ZAR] at he ⊢; (obtain ⟨hc, rfl, _⟩ := he; exact ⟨hc, hk⟩)) | (obtain ⟨rfl, _⟩ := he; subst_vars; simpa using hk) | (simp only [*, if_true]; first | (obtain ⟨rfl, _⟩ := he; exact hk) | (obtain ⟨hc, rfl, _⟩ := he; exact ⟨hc, hk⟩) | (simp only [ZAT] at he ⊢; (obtain ⟨rfl, _⟩ := he; exact hk)) | (simp only [ZAO] at he ⊢; (obtain ⟨hc, rfl, _⟩ := he; exact ⟨hc, hk⟩)) | (simp only [ZAQ] at he ⊢; (obtain ⟨hc, rfl, _⟩ := he; exact ⟨hc, hk⟩)) | (simp only [ZAP] at he ⊢; (obtain ⟨hc, rfl, _⟩ := he; exact ⟨hc, hk⟩)) | (simp only [ZAR] at he ⊢; (obtain ⟨hc, rfl, _⟩ := he; exact ⟨hc, hk⟩)))
 case mkf f caps =>
  simp only [evI] at he ⊢
  (repeat' split at he) <;> first | exact he.elim | (obtain ⟨rfl, _⟩ := he; exact hk) | (obtain ⟨hc, rfl, _⟩ := he; exact ⟨hc, hk⟩) | (simp only [ZAT] at he ⊢; (obtain ⟨rfl, _⟩ := he; exact hk)) | (simp only [ZAO] at he ⊢; (obtain ⟨hc, rfl, _⟩ := he; exact ⟨hc, hk⟩)) | (simp only [ZAQ] at he ⊢; (obtain ⟨hc, rfl, _⟩ := he; exact ⟨hc, hk⟩)) | (simp only [ZAP] at he ⊢; (obtain ⟨hc, rfl, _⟩ := he; exact ⟨hc, hk⟩)) | (simp only [ZAR] at he ⊢; (obtain ⟨hc, rfl, _⟩ := he; exact ⟨hc, hk⟩)) | (obtain ⟨rfl, _⟩ := he; subst_vars; simpa using hk) | (simp only [*, if_true]; first | (obtain ⟨rfl, _⟩ := he; exact hk) | (obtain ⟨hc, rfl, _⟩ := he; exact ⟨hc, hk⟩) | (simp only [ZAT] at he ⊢; (obtain ⟨rfl, _⟩ := he; exact hk)) | (simp only [ZAO] at he ⊢; (obtain ⟨hc, rfl, _⟩ := he; exact ⟨hc, hk⟩)) | (simp only [ZAQ] at he ⊢; (obtain ⟨hc, rfl, _⟩ := he; exact ⟨hc, hk⟩)) | (simp only [ZAP] at he ⊢; (obtain ⟨hc, rfl, _⟩ := he; exact ⟨hc, hk⟩)) | (simp only [ZAR] at he ⊢; (obtain ⟨hc, rfl, _⟩ := he; exact ⟨hc, hk⟩)))
 case mp q qe op =>
  simp [ZCp] at hp
 case esc op =>
  simp [ZCp] at hp
end Go.Sx
