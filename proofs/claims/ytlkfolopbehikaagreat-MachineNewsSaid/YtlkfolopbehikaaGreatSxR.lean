/- The symbolic walk, part R: regions that draw their order: one walk, in the order of the text, serves every order. -/
import Derived.Test.YtlkfolopbehikaaGreatSxQ
set_option linter.unusedSimpArgs false
set_option linter.unusedVariables false
set_option linter.unusedSectionVars false
namespace Go.Sx
open Go

/-- The slots that an operation looks at. -/
def tmpsOf : List Operand → List Nat
  | [] => []
  | .tmp t :: xs => t :: tmpsOf xs
  | _ :: xs => tmpsOf xs
def opTmps (op : Op) : List Nat := tmpsOf op.operands.toList

def lk : O → List Nat
  | .r t => [t]
  | .c _ => []
def lkO : Option O → List Nat
  | none => []
  | some x => lk x
def lkS : List O → List Nat
  | [] => []
  | x :: xs => lk x ++ lkS xs
def lkP : List (Nat × Nat × O) → List Nat
  | [] => []
  | x :: xs => lk x.2.2 ++ lkP xs
def lkM : MOp → List Nat
  | .mk => []
  | .ln m => lk m
  | .lk m i => lk m ++ lk i
  | .dl m i => lk m ++ lk i
  | .en m i => lk m ++ lk i
  | .up m i v => lk m ++ lk i ++ lk v
  | .st m s v => lk m ++ lk s ++ lk v
def looksI : I → List Nat
  | .mov x => lk x
  | .pick c a b => lk c ++ lk a ++ lk b
  | .alloc _ => []
  | .box x => lk x
  | .ld x => lk x
  | .lda _ x => lk x
  | .sto _ a x => lk a ++ lk x
  | .nck x => lk x
  | .ar _ _ x y => lk x ++ lk y
  | .dv _ _ x y => lk x ++ lk y
  | .bt _ _ x y => lk x ++ lk y
  | .sh _ _ x y => lk x ++ lk y
  | .cmp _ _ x y => lk x ++ lk y
  | .eq _ _ x y => lk x ++ lk y
  | .eqa _ _ x y => lk x ++ lk y
  | .cat x y => lk x ++ lk y
  | .not x => lk x
  | .neg _ x => lk x
  | .conv _ x => lk x
  | .fa _ x => lk x
  | .ixs _ x i => lk x ++ lk i
  | .ixa _ _ x i => lk x ++ lk i
  | .ixt x i => lk x ++ lk i
  | .fld _ x => lk x
  | .flda _ _ x => lk x
  | .ext _ x => lk x
  | .bld _ parts => lkP parts
  | .bsl _ _ _ parts => lkP parts
  | .mks _ _ _ l c => lk l ++ lk c
  | .len x => lk x
  | .lens x => lk x
  | .mx _ x y => lk x ++ lk y
  | .mn _ x y => lk x ++ lk y
  | .slc _ x lo hi => lk x ++ lkO lo ++ lkO hi
  | .slt x lo hi => lk x ++ lkO lo ++ lkO hi
  | .app _ _ s x => lk s ++ lk x
  | .call _ args => lkS args
  | .callv fv args => lk fv ++ lkS args
  | .inv recv _ args => lk recv ++ lkS args
  | .mki _ x => lk x
  | .mkf _ caps => lkS caps
  | .mp _ _ op => lkM op
  | .esc op => opTmps op
def pureM : MOp → Bool
  | .ln _ => true
  | .lk _ _ => true
  | _ => false
def pureI : I → Bool
  | .mp _ _ op => pureM op
  | .alloc .. => false
  | .box .. => false
  | .sto .. => false
  | .bsl .. => false
  | .mks .. => false
  | .app .. => false
  | .call .. => false
  | .callv .. => false
  | .inv .. => false
  | .esc .. => false
  | _ => true
def freeI : I → Bool
  | .mp .. => false
  | .alloc .. => false
  | .box .. => false
  | .ld .. => false
  | .lda .. => false
  | .sto .. => false
  | .bsl .. => false
  | .mks .. => false
  | .app .. => false
  | .call .. => false
  | .callv .. => false
  | .inv .. => false
  | .esc .. => false
  | _ => true
def drawI : I → Bool := fun _ => true
def restr (l : List Nat) (r : Regs) : Regs := r.filter fun p => l.any (Nat.beq p.1)
theorem restr_get (l : List Nat) : ∀ (r : Regs) (t : Nat), rget (restr l r) t = if t ∈ l then rget r t else none
  | [], t => by simp [restr, rget]
  | (t', x) :: r, t => by
    have ih := restr_get l r t
    unfold restr at ih ⊢
    rw [List.filter_cons]
    by_cases hm : t' ∈ l
    · have : l.any (Nat.beq t') = true := List.any_eq_true.2 ⟨t', hm, Nat.beq_refl t'⟩
      simp only [this, if_true, rget_cons, ih]
      by_cases e : t' = t
      · subst e; simp [hm]
      · simp [e]
    · have : l.any (Nat.beq t') = false := by
        cases hq : l.any (Nat.beq t') with
        | false => rfl
        | true =>
          obtain ⟨y, h1, h2⟩ := List.any_eq_true.1 hq
          exact absurd (Nat.eq_of_beq_eq_true h2 ▸ h1) hm
      simp only [this, Bool.false_eq_true, if_false, ih, rget_cons]
      by_cases e : t' = t
      · subst e; simp [hm]
      · simp [e]
structure CallD (G : Ctx) (f : FuncId) (xs : List AV) (h : Heap) (n : Nat) (K : SV → Heap → Nat → Prop) : Prop where
  out :   ∃ x u n', CallP G f xs h n (fun x' u' m => x' = x ∧ u' = u ∧ m = n') ∧ K x u n'
theorem CallD_eq (G : Ctx) (f : FuncId) (xs : List AV) (h : Heap) (n : Nat) (K : SV → Heap → Nat → Prop) : CallD G f xs h n K = (∃ x u n', CallP G f xs h n (fun x' u' m => x' = x ∧ u' = u ∧ m = n') ∧ K x u n') := propext ⟨fun h => h.out, fun h => ⟨h⟩⟩
structure InvD (G : Ctx) (recv : AV) (name : String) (xs : List AV) (h : Heap) (n : Nat) (K : SV → Heap → Nat → Prop) : Prop where
  out : ∃ x u n', InvP G recv name xs h n (fun x' u' m => x' = x ∧ u' = u ∧ m = n') ∧ K x u n'
/-- Another operation, of which only what it looks at is known. -/
def EscR (G : Ctx) (op : Op) (r : Regs) (h : Heap) (n : Nat) (K : SV → Heap → Nat → Prop) : Prop := EscP G op (restr (opTmps op) r) h n K
structure EscD (G : Ctx) (op : Op) (r : Regs) (h : Heap) (n : Nat) (K : SV → Heap → Nat → Prop) : Prop where
  out : ∃ x u n', EscR G op r h n (fun x' u' m => x' = x ∧ u' = u ∧ m = n') ∧ K x u n'
theorem EscP.congr {G : Ctx} {op : Op} {r r' : Regs} {h : Heap} {n : Nat} {K : SV → Heap → Nat → Prop} (H : ∀ t, rget r t = rget r' t) : EscP G op r h n K = EscP G op r' h n K := by
  have one : ∀ {r r' : Regs}, (∀ t, rget r t = rget r' t) → EscP G op r h n K → EscP G op r' h n K := fun {r r'} H he => by
    rw [EscP_eq] at he ⊢
    exact fun G' hP o ρ φ a w ho g hr => he G' hP o ρ φ a w ho g fun t x hx => hr t x (by rw [← H]; exact hx)
  exact propext ⟨one H, one fun t => (H t).symm⟩
theorem EscR.congr {G : Ctx} {op : Op} {r r' : Regs} (H : ∀ t ∈ opTmps op, rget r t = rget r' t) : EscR G op r = EscR G op r' := by
  funext h n K
  unfold EscR
  refine EscP.congr fun t => ?_
  rw [restr_get, restr_get]
  split
  · exact H t (by assumption)
  · rfl
theorem EscD.congr {G : Ctx} {op : Op} {r r' : Regs} (H : ∀ t ∈ opTmps op, rget r t = rget r' t) : EscD G op r = EscD G op r' := by
  funext h n K
  have e := EscR.congr (G := G) H
  exact propext ⟨fun ⟨x, u, n', h1, h2⟩ => ⟨x, u, n', by rw [← e]; exact h1, h2⟩, fun ⟨x, u, n', h1, h2⟩ => ⟨x, u, n', by rw [e]; exact h1, h2⟩⟩
theorem EscR.out {G : Ctx} {op : Op} {r : Regs} {h : Heap} {n : Nat} {K : SV → Heap → Nat → Prop} (he : EscR G op r h n K) : EscP G op r h n K := by
  unfold EscR at he
  rw [EscP_eq] at he ⊢
  exact fun G' hP o ρ φ a w ho g hr => he G' hP o ρ φ a w ho g fun t x hx => hr t x (by
    rw [restr_get] at hx
    split at hx
    · exact hx
    · cases hx)

theorem oget_congr {r r' : Regs} {x : O} (h : ∀ t ∈ lk x, rget r t = rget r' t) : oget r x = oget r' x := by
  cases x with
  | r t => simp only [oget, h t (by simp [lk])]
  | c x => rfl
theorem ogets_congr {r r' : Regs} : ∀ {xs : List O}, (∀ t ∈ lkS xs, rget r t = rget r' t) → ogets r xs = ogets r' xs
  | [], _ => rfl
  | x :: xs, h => by
    simp only [ogets, oget_congr (x := x) fun t ht => h t (by simp [lkS, ht]), ogets_congr (xs := xs) fun t ht => h t (by simp [lkS, ht])]
theorem steps_congr {r r' : Regs} : ∀ {xs : List (Nat × Nat × O)} (acc : Option (List LV)), (∀ t ∈ lkP xs, rget r t = rget r' t) → xs.foldl (stepB r) acc = xs.foldl (stepB r') acc
  | [], _, _ => rfl
  | x :: xs, acc, h => by
    have e : stepB r acc x = stepB r' acc x := by simp only [stepB, oget_congr (x := x.2.2) fun t ht => h t (by simp [lkP, ht])]
    simp only [List.foldl, e]
    exact steps_congr _ fun t ht => h t (by simp [lkP, ht])
theorem foldr_cong {α β : Type} {f f' : α → β → β} : ∀ {xs : List α} (acc : β), (∀ x ∈ xs, ∀ b, f x b = f' x b) → xs.foldr f acc = xs.foldr f' acc
  | [], _, _ => rfl
  | x :: xs, acc, h => by
    simp only [List.foldr]
    rw [foldr_cong acc fun y hy => h y (by simp [hy]), h x (by simp)]
theorem lkS_mem {xs : List O} {x : O} (hx : x ∈ xs) : ∀ t ∈ lk x, t ∈ lkS xs := by
  induction xs with
  | nil => cases hx
  | cons y ys ih =>
    intro t ht
    rcases List.mem_cons.1 hx with rfl | hx
    · simp [lkS, ht]
    · simp [lkS, ih hx t ht]

section
variable {CP : FuncId → List AV → Heap → Nat → (SV → Heap → Nat → Prop) → Prop}
variable {IP : AV → String → List AV → Heap → Nat → (SV → Heap → Nat → Prop) → Prop}
variable {EP : Op → Regs → Heap → Nat → (SV → Heap → Nat → Prop) → Prop}
/-- What an operation looks at is all that counts. -/
theorem evI_congr (hEP : ∀ op r r', (∀ t ∈ opTmps op, rget r t = rget r' t) → EP op r = EP op r') {i : I} (hi : drawI i = true) {r r' : Regs} (H : ∀ t ∈ looksI i, rget r t = rget r' t) (h : Heap) (n : Nat) (K : SV → Heap → Nat → Prop) : evI CP IP EP i r h n K = evI CP IP EP i r' h n K := by
  cases i
  case mov x =>
    cases x with
    | c y => simp only [evI, oget]
    | r t =>
      have ht : rget r t = rget r' t := H t (by simp [looksI, lk])
      simp only [evI, oget, ht]
  case pick c a b => simp only [evI, oget_congr (x := c) (fun t ht => H t (by simp [looksI, ht])), oget_congr (x := a) (fun t ht => H t (by simp [looksI, ht])), oget_congr (x := b) (fun t ht => H t (by simp [looksI, ht]))]
  case alloc z => simp only [evI]
  case box x => simp only [evI, oget_congr (x := x) (fun t ht => H t (by simp [looksI, ht]))]
  case ld x => simp only [evI, oget_congr (x := x) (fun t ht => H t (by simp [looksI, ht]))]
  case lda m x => simp only [evI, oget_congr (x := x) (fun t ht => H t (by simp [looksI, ht]))]
  case sto m a x => simp only [evI, oget_congr (x := a) (fun t ht => H t (by simp [looksI, ht])), oget_congr (x := x) (fun t ht => H t (by simp [looksI, ht]))]
  case nck x => simp only [evI, oget_congr (x := x) (fun t ht => H t (by simp [looksI, ht]))]
  case ar op k x y => simp only [evI, oget_congr (x := x) (fun t ht => H t (by simp [looksI, ht])), oget_congr (x := y) (fun t ht => H t (by simp [looksI, ht]))]
  case dv op k x y => simp only [evI, oget_congr (x := x) (fun t ht => H t (by simp [looksI, ht])), oget_congr (x := y) (fun t ht => H t (by simp [looksI, ht]))]
  case bt op k x y => simp only [evI, oget_congr (x := x) (fun t ht => H t (by simp [looksI, ht])), oget_congr (x := y) (fun t ht => H t (by simp [looksI, ht]))]
  case sh op k x y => simp only [evI, oget_congr (x := x) (fun t ht => H t (by simp [looksI, ht])), oget_congr (x := y) (fun t ht => H t (by simp [looksI, ht]))]
  case cmp op k x y => simp only [evI, oget_congr (x := x) (fun t ht => H t (by simp [looksI, ht])), oget_congr (x := y) (fun t ht => H t (by simp [looksI, ht]))]
  case eq c neg x y => simp only [evI, oget_congr (x := x) (fun t ht => H t (by simp [looksI, ht])), oget_congr (x := y) (fun t ht => H t (by simp [looksI, ht]))]
  case eqa cs neg x y => simp only [evI, oget_congr (x := x) (fun t ht => H t (by simp [looksI, ht])), oget_congr (x := y) (fun t ht => H t (by simp [looksI, ht]))]
  case cat x y => simp only [evI, oget_congr (x := x) (fun t ht => H t (by simp [looksI, ht])), oget_congr (x := y) (fun t ht => H t (by simp [looksI, ht]))]
  case not x => simp only [evI, oget_congr (x := x) (fun t ht => H t (by simp [looksI, ht]))]
  case neg k x => simp only [evI, oget_congr (x := x) (fun t ht => H t (by simp [looksI, ht]))]
  case conv k x => simp only [evI, oget_congr (x := x) (fun t ht => H t (by simp [looksI, ht]))]
  case fa off x => simp only [evI, oget_congr (x := x) (fun t ht => H t (by simp [looksI, ht]))]
  case ixs wd x i => simp only [evI, oget_congr (x := x) (fun t ht => H t (by simp [looksI, ht])), oget_congr (x := i) (fun t ht => H t (by simp [looksI, ht]))]
  case ixa sz m x i => simp only [evI, oget_congr (x := x) (fun t ht => H t (by simp [looksI, ht])), oget_congr (x := i) (fun t ht => H t (by simp [looksI, ht]))]
  case ixt x i => simp only [evI, oget_congr (x := x) (fun t ht => H t (by simp [looksI, ht])), oget_congr (x := i) (fun t ht => H t (by simp [looksI, ht]))]
  case fld off x => simp only [evI, oget_congr (x := x) (fun t ht => H t (by simp [looksI, ht]))]
  case flda off m x => simp only [evI, oget_congr (x := x) (fun t ht => H t (by simp [looksI, ht]))]
  case ext j x =>
    cases x with
    | r t => simp only [evI, H t (by simp [looksI, lk])]
    | c x => rfl
  case bld z parts => simp only [evI, steps_congr (xs := parts) _ (fun t ht => H t (by simp [looksI, ht]))]
  case bsl wd m z parts => simp only [evI, steps_congr (xs := parts) _ (fun t ht => H t (by simp [looksI, ht]))]
  case mks wd bytes z l c => simp only [evI, oget_congr (x := l) (fun t ht => H t (by simp [looksI, ht])), oget_congr (x := c) (fun t ht => H t (by simp [looksI, ht]))]
  case len x => simp only [evI, oget_congr (x := x) (fun t ht => H t (by simp [looksI, ht]))]
  case lens x => simp only [evI, oget_congr (x := x) (fun t ht => H t (by simp [looksI, ht]))]
  case mx k x y => simp only [evI, oget_congr (x := x) (fun t ht => H t (by simp [looksI, ht])), oget_congr (x := y) (fun t ht => H t (by simp [looksI, ht]))]
  case mn k x y => simp only [evI, oget_congr (x := x) (fun t ht => H t (by simp [looksI, ht])), oget_congr (x := y) (fun t ht => H t (by simp [looksI, ht]))]
  case slc wd x lo up =>
    have h1 := oget_congr (x := x) (fun t ht => H t (by simp [looksI, ht]))
    have h2 : ∀ y, lo = some y → oget r y = oget r' y := fun y hy => oget_congr fun t ht => H t (by simp [looksI, lkO, hy, ht])
    have h3 : ∀ y, up = some y → oget r y = oget r' y := fun y hy => oget_congr fun t ht => H t (by simp [looksI, lkO, hy, ht])
    have h4 : ∀ y K', slcX wd r y lo up K' = slcX wd r' y lo up K' := fun y K' => by
      unfold slcX
      cases lo <;> cases up <;> (try dsimp only) <;> (try simp only [h2 _ rfl]) <;> (try simp only [h3 _ rfl])
    cases lo <;> cases up <;> simp only [evI, h1, h4] <;> (try simp only [h2 _ rfl]) <;> (try simp only [h3 _ rfl])
  case slt x lo up =>
    have h1 := oget_congr (x := x) (fun t ht => H t (by simp [looksI, ht]))
    have h2 : ∀ y, lo = some y → oget r y = oget r' y := fun y hy => oget_congr fun t ht => H t (by simp [looksI, lkO, hy, ht])
    have h3 : ∀ y, up = some y → oget r y = oget r' y := fun y hy => oget_congr fun t ht => H t (by simp [looksI, lkO, hy, ht])
    cases lo <;> cases up <;> simp only [evI, h1] <;> (try simp only [h2 _ rfl]) <;> (try simp only [h3 _ rfl])
  case app wd bytes s x => simp only [evI, oget_congr (x := s) (fun t ht => H t (by simp [looksI, ht])), oget_congr (x := x) (fun t ht => H t (by simp [looksI, ht]))]
  case call f args => simp only [evI, ogets_congr (xs := args) (fun t ht => H t (by simp [looksI, ht]))]
  case callv fv args => simp only [evI, oget_congr (x := fv) (fun t ht => H t (by simp [looksI, ht])), ogets_congr (xs := args) (fun t ht => H t (by simp [looksI, ht]))]
  case inv recv name args => simp only [evI, oget_congr (x := recv) (fun t ht => H t (by simp [looksI, ht])), ogets_congr (xs := args) (fun t ht => H t (by simp [looksI, ht]))]
  case mki t x => simp only [evI, oget_congr (x := x) (fun t ht => H t (by simp [looksI, ht]))]
  case mkf f caps =>
    simp only [evI]
    rw [foldr_cong]
    intro o ho acc
    simp only [oget_congr (x := o) fun t ht => H t (lkS_mem ho t ht)]
  case mp q qe op =>
    cases op <;> simp only [evI, evM]
    case lk m i => simp only [oget_congr (x := m) (fun t ht => H t (by simp [looksI, lkM, ht])), oget_congr (x := i) (fun t ht => H t (by simp [looksI, lkM, ht]))]
    case up m i v => simp only [oget_congr (x := m) (fun t ht => H t (by simp [looksI, lkM, ht])), oget_congr (x := i) (fun t ht => H t (by simp [looksI, lkM, ht])), oget_congr (x := v) (fun t ht => H t (by simp [looksI, lkM, ht]))]
    case dl m i => simp only [oget_congr (x := m) (fun t ht => H t (by simp [looksI, lkM, ht])), oget_congr (x := i) (fun t ht => H t (by simp [looksI, lkM, ht]))]
    case ln m => simp only [oget_congr (x := m) (fun t ht => H t (by simp [looksI, lkM, ht]))]
    case en m i => simp only [oget_congr (x := m) (fun t ht => H t (by simp [looksI, lkM, ht])), oget_congr (x := i) (fun t ht => H t (by simp [looksI, lkM, ht]))]
    case st m s v => simp only [oget_congr (x := m) (fun t ht => H t (by simp [looksI, lkM, ht])), oget_congr (x := s) (fun t ht => H t (by simp [looksI, lkM, ht])), oget_congr (x := v) (fun t ht => H t (by simp [looksI, lkM, ht]))]
  case esc op => simp only [evI, hEP op r r' (fun t ht => H t (by simp [looksI, ht]))]
end
theorem rec_cases {kf kt : Prop} {b : Bool} (h : @Bool.rec (fun _ => Prop) kf kt b) : (b = true ∧ kt) ∨ (b = false ∧ kf) := by cases b; exact .inr ⟨rfl, h⟩; exact .inl ⟨rfl, h⟩
theorem pick_ld {h : Heap} {k wd row col : Nat} {K : LV → Prop} (he : ldAt h k wd row col K) : ∃ x, K x ∧ ldAt h k wd row col (fun y => y = x) := by
  unfold ldAt at he ⊢
  split at he
  · split at he
    · exact ⟨_, he, by simp only [*]⟩
    · exact he.elim
  · split at he
    · obtain ⟨h1, he⟩ := he
      split at he
      · rw [forceV_eq] at he
        exact ⟨_, he, by simp only [*, forceV_eq, and_self]⟩
      · exact he.elim
    · exact he.elim
  · split at he
    · obtain ⟨h1, he⟩ := he
      split at he
      · rw [forceV_eq] at he
        exact ⟨_, he, by simp only [*, forceV_eq, and_self]⟩
      · exact he.elim
    · exact he.elim
  · split at he
    · obtain ⟨⟨rfl, h1⟩, he⟩ := he
      exact ⟨_, he, by simp only [*, and_self]⟩
    · exact he.elim
  · exact he.elim
theorem pick_ldm {h : Heap} {k wd row col m : Nat} {K : List LV → Prop} (he : ldMany h k wd row col m K) : ∃ x, K x ∧ ldMany h k wd row col m (fun y => y = x) := by
  unfold ldMany at he ⊢
  simp only [lvsK_eq] at he ⊢
  split at he
  · split at he
    · exact ⟨_, he, by simp only [*]⟩
    · exact he.elim
  · split at he
    · obtain ⟨h1, he⟩ := he
      split at he
      · rw [forceVs_eq] at he
        exact ⟨_, he, by simp only [*, forceVs_eq, and_self]⟩
      · exact he.elim
    · exact he.elim
  · split at he
    · obtain ⟨h1, he⟩ := he
      split at he
      · rw [forceVs_eq] at he
        exact ⟨_, he, by simp only [*, forceVs_eq, and_self]⟩
      · exact he.elim
    · exact he.elim
  · exact he.elim
theorem pick_st {h : Heap} {k wd row col m : Nat} {x : AV} {K : Heap → Prop} (he : stAt h k wd row col m x K) : ∃ u, K u ∧ stAt h k wd row col m x (fun y => y = u) := by
  unfold stAt at he ⊢
  simp only [lvsK_eq] at he ⊢
  split at he
  · split at he
    · split at he
      · exact ⟨_, he, by simp only [*]⟩
      · exact he.elim
    · split at he
      · obtain ⟨h1, he⟩ := he
        exact ⟨_, he, by simp only [*, and_self]⟩
      · exact he.elim
    · split at he
      · split at he
        · obtain ⟨⟨rfl, h1⟩, he⟩ := he
          rw [lvK_eq] at he
          exact ⟨_, he, by simp only [*, lvK_eq, and_self]⟩
        · exact he.elim
      · exact he.elim
    · exact he.elim
  · exact he.elim
theorem ld_mono {h : Heap} {k wd row col : Nat} {K K' : LV → Prop} (hk : ∀ x, K x → K' x) (he : ldAt h k wd row col K) : ldAt h k wd row col K' := by
  obtain ⟨x, h1, h2⟩ := pick_ld he
  unfold ldAt at he ⊢
  split at he
  · split at he
    · exact hk _ he
    · exact he.elim
  · split at he
    · refine ⟨he.1, ?_⟩
      have he := he.2
      split at he
      · rw [forceV_eq] at he ⊢; exact hk _ he
      · exact he.elim
    · exact he.elim
  · split at he
    · refine ⟨he.1, ?_⟩
      have he := he.2
      split at he
      · rw [forceV_eq] at he ⊢; exact hk _ he
      · exact he.elim
    · exact he.elim
  · split at he
    · exact ⟨he.1, hk _ he.2⟩
    · exact he.elim
  · exact he.elim
theorem ldm_mono {h : Heap} {k wd row col m : Nat} {K K' : List LV → Prop} (hk : ∀ x, K x → K' x) (he : ldMany h k wd row col m K) : ldMany h k wd row col m K' := by
  unfold ldMany at he ⊢
  simp only [lvsK_eq] at he ⊢
  split at he
  · split at he
    · exact hk _ he
    · exact he.elim
  · split at he
    · refine ⟨he.1, ?_⟩
      have he := he.2
      split at he
      · rw [forceVs_eq] at he ⊢; exact hk _ he
      · exact he.elim
    · exact he.elim
  · split at he
    · refine ⟨he.1, ?_⟩
      have he := he.2
      split at he
      · rw [forceVs_eq] at he ⊢; exact hk _ he
      · exact he.elim
    · exact he.elim
  · exact he.elim
theorem st_mono {h : Heap} {k wd row col m : Nat} {x : AV} {K K' : Heap → Prop} (hk : ∀ x, K x → K' x) (he : stAt h k wd row col m x K) : stAt h k wd row col m x K' := by
  unfold stAt at he ⊢
  simp only [lvsK_eq] at he ⊢
  split at he
  · split at he
    · split at he
      · exact hk _ he
      · exact he.elim
    · split at he
      · exact ⟨he.1, hk _ he.2⟩
      · exact he.elim
    · split at he
      · split at he
        · rw [lvK_eq] at he ⊢
          exact ⟨he.1, hk _ he.2⟩
        · exact he.elim
      · exact he.elim
    · exact he.elim
  · exact he.elim
theorem pick_ldX {h : Heap} {y : Option AV} {K : LV → Prop} (he : ldX h y K) : ∃ v, K v ∧ ∀ K' : LV → Prop, K' v → ldX h y K' := by
  unfold ldX ldDp at *
  split at he
  · split at he
    · split at he
      · split at he
        · obtain ⟨hrow, he⟩ := he
          split at he
          · rw [forceV_eq] at he
            exact ⟨_, he, fun K' hk => by simp only [*, forceV_eq, true_and]⟩
          · exact ⟨_, he, fun K' hk => by simp only [*, true_and]⟩
        · exact he.elim
      · exact he.elim
    · exact he.elim
  · split at he
    · rw [forceV_eq] at he
      exact ⟨_, he, fun K' hk => by simp only [*, forceV_eq]⟩
    · exact he.elim
  · exact he.elim
theorem dpCells_put {k : Nat} {q : List (Nat × Nat)} {row : Nat} {f : Nat → Nat → DV} : ∀ (m col : Nat) {K' : List LV → Prop}, K' ((List.range m).map fun j => dpLV k q row f (col + j)) → dpCells k q row f col m K'
  | 0, col, K', he => he
  | m + 1, col, K', he => by
    simp only [dpCells]
    rw [List.range_succ_eq_map] at he
    simp only [List.map_cons, List.map_map, Nat.add_zero] at he
    have e : ((fun j => dpLV k q row f (col + j)) ∘ Nat.succ) = fun j => dpLV k q row f (col + 1 + j) := by
      funext j; simp only [Function.comp]; congr 1; omega
    rw [e] at he
    split
    · rename_i x hx
      rw [forceV_eq]
      exact dpCells_put m (col + 1) (by simpa only [dpLV, hx] using he)
    · rename_i wd2 n2 f2 hx
      exact dpCells_put m (col + 1) (by simpa only [dpLV, hx] using he)
theorem pick_ldsX {h : Heap} {y : Option AV} {m : Nat} {K : List LV → Prop} (he : ldsX h y m K) : ∃ v, K v ∧ ∀ K' : List LV → Prop, K' v → ldsX h y m K' := by
  unfold ldsX ldDps at *
  split at he
  · split at he
    · split at he
      · split at he
        · obtain ⟨hrow, he⟩ := he
          exact ⟨_, dpCells_pick _ _ he, fun K' hk => by simp only [*, true_and]; exact dpCells_put _ _ hk⟩
        · exact he.elim
      · exact he.elim
    · exact he.elim
  · split at he
    · rw [lvsK_eq] at he
      exact ⟨_, he, fun K' hk => by simp only [*, lvsK_eq]⟩
    · exact he.elim
  · exact he.elim
theorem pick_faX {off : Nat} {y : Option AV} {K : LV → Prop} (he : faX off y K) : ∃ v, K v ∧ ∀ K' : LV → Prop, K' v → faX off y K' := by
  unfold faX at *
  split at he
  · exact ⟨_, he, fun K' hk => hk⟩
  · exact he.elim
theorem pick_ixsX {wd : Nat} {y z : Option AV} {K : LV → Prop} (he : ixsX wd y z K) : ∃ v, K v ∧ ∀ K' : LV → Prop, K' v → ixsX wd y z K' := by
  unfold ixsX at *
  split at he
  · split at he
    · split at he
      · rename_i hb
        obtain ⟨hc, he⟩ := he
        exact ⟨_, he, fun K' hk => ⟨hc, hk⟩⟩
      · exact he.elim
    · exact he.elim
  · split at he
    · obtain ⟨hc, he⟩ := he
      exact ⟨_, he, fun K' hk => ⟨hc, hk⟩⟩
    · exact he.elim
  · exact he.elim
theorem pick_ixaX {sz m : Nat} {y z : Option AV} {K : LV → Prop} (he : ixaX sz m y z K) : ∃ v, K v ∧ ∀ K' : LV → Prop, K' v → ixaX sz m y z K' := by
  unfold ixaX at *
  split at he
  · split at he
    · obtain ⟨hc, he⟩ := he
      exact ⟨_, he, fun K' hk => ⟨hc, hk⟩⟩
    · exact he.elim
  · exact he.elim
theorem pick_lenX {y : Option AV} {K : Int → Prop} (he : lenX y K) : ∃ v, K v ∧ ∀ K' : Int → Prop, K' v → lenX y K' := by
  unfold lenX at *
  split at he
  · exact ⟨_, he, fun K' hk => hk⟩
  · exact he.elim
theorem pick_slcX {wd : Nat} {r : Regs} {y : Option AV} {lo up : Option O} {K : LV → Prop} (he : slcX wd r y lo up K) : ∃ v, K v ∧ ∀ K' : LV → Prop, K' v → slcX wd r y lo up K' := by
  unfold slcX at *
  (repeat' split at he) <;> first | exact he.elim | exact ⟨_, he, fun K' hk => by simp only [*]⟩ | exact ⟨_, he.2, fun K' hk => by have := he.1; simp only [*, and_self, true_and]⟩ | skip
theorem pick_dvsOf {h : Heap} : ∀ (cs : List LV) {K : List DV → Heap → Prop}, dvsOf h cs K → ∃ ds dead, K ds dead ∧ ∀ K' : List DV → Heap → Prop, K' ds dead → dvsOf h cs K'
  | [], K, he => ⟨[], [], he, fun K' hk => hk⟩
  | x :: cs, K, he => by
    unfold dvsOf at he ⊢
    split at he
    · rename_i heq; cases heq
    · rename_i v xs heq
      cases heq
      obtain ⟨ds, dead, h1, h2⟩ := pick_dvsOf cs he
      exact ⟨_, _, h1, fun K' hk => h2 _ hk⟩
    · rename_i k wd len xs heq
      cases heq
      split at he
      · rename_i hk0
        split at he
        · rename_i hb
          obtain ⟨hlen, he⟩ := he
          obtain ⟨ds, dead, h1, h2⟩ := pick_dvsOf cs he
          exact ⟨_, _, h1, fun K' hk => by simp only [hk0, hb]; exact ⟨hlen, h2 _ hk⟩⟩
        · exact he.elim
      · exact he.elim
    · rename_i k wd len xs heq
      cases heq
      split at he
      · rename_i hk0
        split at he
        · rename_i hb
          obtain ⟨hlen, he⟩ := he
          obtain ⟨ds, dead, h1, h2⟩ := pick_dvsOf cs he
          exact ⟨_, _, h1, fun K' hk => by simp only [hk0, hb]; exact ⟨hlen, h2 _ hk⟩⟩
        · exact he.elim
      · exact he.elim
    · exact he.elim
theorem pick_bslX {hp : Heap} {wd m nx : Nat} {cs : List LV} {o : Option (List Value)} {a b : Bool} {K : SV → Heap → Nat → Prop} (he : bslX hp wd m nx cs o a b K) : ∃ x u n', K x u n' ∧ ∀ K' : SV → Heap → Nat → Prop, K' x u n' → bslX hp wd m nx cs o a b K' := by
  unfold bslX at *
  split at he
  · split at he
    · split at he
      · obtain ⟨ds, dead, h1, h2⟩ := pick_dvsOf cs he
        exact ⟨_, _, _, h1, fun K' hk => h2 _ hk⟩
      · exact he.elim
    · exact he.elim
  · exact he.elim
theorem pick_appF {hp : Heap} {wd bytes nx : Nat} {y : Option AV} {k2 : Nat} {q : List (Nat × Nat)} {wd2 row2 len2 : Nat} {K : SV → Heap → Nat → Prop} (he : appF hp wd bytes nx y k2 q wd2 row2 len2 K) : ∃ x u n', K x u n' ∧ ∀ K' : SV → Heap → Nat → Prop, K' x u n' → appF hp wd bytes nx y k2 q wd2 row2 len2 K' := by
  unfold appF at *
  (repeat' split at he) <;> first | exact he.elim | (obtain ⟨hc, he⟩ := he; refine ⟨_, _, _, he, fun K' hk => ?_⟩; clear he; revert hc hk; (try simp only [*]); exact fun hc hk => ⟨hc, hk⟩)
theorem pick_appX {hp : Heap} {wd bytes nx : Nat} {y z : Option AV} {K : SV → Heap → Nat → Prop} (he : appX hp wd bytes nx y z K) : ∃ x u n', K x u n' ∧ ∀ K' : SV → Heap → Nat → Prop, K' x u n' → appX hp wd bytes nx y z K' := by
  unfold appX at *
  (repeat' split at he) <;> first | exact he.elim | exact pick_appF he | (obtain ⟨hc, he⟩ := he; refine ⟨_, _, _, he, fun K' hk => ?_⟩; clear he; revert hc hk; (try simp only [*]); exact fun hc hk => ⟨hc, hk⟩)
theorem pick_I {G : Ctx} {i : I} (hi : drawI i = true) {r : Regs} {h : Heap} {n : Nat} {K : SV → Heap → Nat → Prop} (he : evI (CallD G) (InvD G) (EscD G) i r h n K) :
    ∃ x u n', K x u n' ∧ evI (CallP G) (InvP G) (EscR G) i r h n (fun x' u' m => x' = x ∧ u' = u ∧ m = n') := by
  cases i
  case mov x =>
    simp only [evI] at he ⊢
    (repeat' split at he) <;> first | exact he.elim | exact ⟨_, _, _, he, by simp only [*, if_true, and_self]⟩ | (refine ⟨_, _, _, he.2, ?_⟩; have hc := he.1; clear he; revert hc; simp only [*, if_true, and_self, and_true] <;> exact fun hc => hc) | exact ⟨_, _, _, he, by simp only [*, if_true, and_self]⟩ | (refine ⟨_, _, _, he.2, ?_⟩; have hc := he.1; clear he; revert hc; simp only [*, if_true, and_self, and_true] <;> exact fun hc => hc)
  case pick c a b =>
    simp only [evI] at he ⊢
    split at he
    · rcases rec_cases he with ⟨rfl, hb⟩ | ⟨rfl, hb⟩ <;> clear he <;> split at hb <;> first | exact hb.elim | exact ⟨_, _, _, hb, by simp only [*, and_self]⟩
    · exact he.elim
  case alloc z =>
    simp only [evI] at he ⊢
    exact ⟨_, _, _, he, rfl, rfl, rfl⟩
  case box x =>
    simp only [evI] at he ⊢
    (repeat' split at he) <;> first | exact he.elim | exact ⟨_, _, _, he, by simp only [*, if_true, and_self]⟩ | (refine ⟨_, _, _, he.2, ?_⟩; have hc := he.1; clear he; revert hc; simp only [*, if_true, and_self, and_true] <;> exact fun hc => hc) | exact ⟨_, _, _, he, by simp only [*, if_true, and_self]⟩ | (refine ⟨_, _, _, he.2, ?_⟩; have hc := he.1; clear he; revert hc; simp only [*, if_true, and_self, and_true] <;> exact fun hc => hc)
  case ld x =>
    simp only [evI] at he ⊢
    split at he
    · obtain ⟨x, h1, h2⟩ := pick_ld he
      refine ⟨_, _, _, h1, ?_⟩
      simp only [*]
      exact ld_mono (fun y hy => by subst hy; simp) h2
    · obtain ⟨v, h1, h2⟩ := pick_ldX he; refine ⟨_, _, _, h1, ?_⟩; first | exact h2 _ ⟨rfl, rfl, rfl⟩ | (split <;> first | (exfalso; simp_all; done) | exact h2 _ ⟨rfl, rfl, rfl⟩)
  case lda m x =>
    simp only [evI] at he ⊢
    split at he
    · obtain ⟨x, h1, h2⟩ := pick_ldm he
      refine ⟨_, _, _, h1, ?_⟩
      simp only [*]
      exact ldm_mono (fun y hy => by subst hy; simp) h2
    · obtain ⟨v, h1, h2⟩ := pick_ldsX he; refine ⟨_, _, _, h1, ?_⟩; first | exact h2 _ ⟨rfl, rfl, rfl⟩ | (split <;> first | (exfalso; simp_all; done) | exact h2 _ ⟨rfl, rfl, rfl⟩)
  case sto m a x =>
    simp only [evI] at he ⊢
    split at he
    · obtain ⟨x, h1, h2⟩ := pick_st he
      refine ⟨_, _, _, h1, ?_⟩
      simp only [*]
      exact st_mono (fun y hy => by subst hy; simp) h2
    · exact he.elim
  case nck x =>
    simp only [evI] at he ⊢
    (repeat' split at he) <;> first | exact he.elim | exact ⟨_, _, _, he, by simp only [*, if_true, and_self]⟩ | (refine ⟨_, _, _, he.2, ?_⟩; have hc := he.1; clear he; revert hc; simp only [*, if_true, and_self, and_true] <;> exact fun hc => hc) | exact ⟨_, _, _, he, by simp only [*, if_true, and_self]⟩ | (refine ⟨_, _, _, he.2, ?_⟩; have hc := he.1; clear he; revert hc; simp only [*, if_true, and_self, and_true] <;> exact fun hc => hc) | (obtain ⟨v, h1, h2⟩ := pick_faX he; refine ⟨_, _, _, h1, ?_⟩; first | exact h2 _ ⟨rfl, rfl, rfl⟩ | (split <;> first | (exfalso; simp_all; done) | exact h2 _ ⟨rfl, rfl, rfl⟩))
  case ar op k x y =>
    simp only [evI] at he ⊢
    (repeat' split at he) <;> first | exact he.elim | (rename_i hq; rw [ArP_eq] at he; refine ⟨_, _, _, he, ?_⟩; rw [hq]; rw [ArP_eq]; exact ⟨rfl, rfl, rfl⟩) | (simp only [*, if_true]; first | (simp only [ArP_eq] at he ⊢; exact ⟨_, _, _, he, rfl, rfl, rfl⟩) | (simp only [QuoP_eq] at he ⊢; exact ⟨_, _, _, he.2, he.1, rfl, rfl, rfl⟩) | (simp only [RemP_eq] at he ⊢; exact ⟨_, _, _, he.2, he.1, rfl, rfl, rfl⟩) | (simp only [ShlP_eq] at he ⊢; exact ⟨_, _, _, he.2, he.1, rfl, rfl, rfl⟩) | (simp only [ShrP_eq] at he ⊢; exact ⟨_, _, _, he.2, he.1, rfl, rfl, rfl⟩))
  case dv op k x y =>
    simp only [evI] at he ⊢
    (repeat' split at he) <;> first | exact he.elim | (rename_i hq; rw [ArP_eq] at he; refine ⟨_, _, _, he, ?_⟩; rw [hq]; rw [ArP_eq]; exact ⟨rfl, rfl, rfl⟩) | (simp only [*, if_true]; first | (simp only [ArP_eq] at he ⊢; exact ⟨_, _, _, he, rfl, rfl, rfl⟩) | (simp only [QuoP_eq] at he ⊢; exact ⟨_, _, _, he.2, he.1, rfl, rfl, rfl⟩) | (simp only [RemP_eq] at he ⊢; exact ⟨_, _, _, he.2, he.1, rfl, rfl, rfl⟩) | (simp only [ShlP_eq] at he ⊢; exact ⟨_, _, _, he.2, he.1, rfl, rfl, rfl⟩) | (simp only [ShrP_eq] at he ⊢; exact ⟨_, _, _, he.2, he.1, rfl, rfl, rfl⟩))
  case bt op k x y =>
    simp only [evI] at he ⊢
    (repeat' split at he) <;> first | exact he.elim | exact ⟨_, _, _, he, by simp only [*, if_true, and_self]⟩ | (refine ⟨_, _, _, he.2, ?_⟩; have hc := he.1; clear he; revert hc; simp only [*, if_true, and_self, and_true] <;> exact fun hc => hc) | exact ⟨_, _, _, he, by simp only [*, if_true, and_self]⟩ | (refine ⟨_, _, _, he.2, ?_⟩; have hc := he.1; clear he; revert hc; simp only [*, if_true, and_self, and_true] <;> exact fun hc => hc)
  case sh op k x y =>
    simp only [evI] at he ⊢
    (repeat' split at he) <;> first | exact he.elim | (rename_i hq; rw [ArP_eq] at he; refine ⟨_, _, _, he, ?_⟩; rw [hq]; rw [ArP_eq]; exact ⟨rfl, rfl, rfl⟩) | (simp only [*, if_true]; first | (simp only [ArP_eq] at he ⊢; exact ⟨_, _, _, he, rfl, rfl, rfl⟩) | (simp only [QuoP_eq] at he ⊢; exact ⟨_, _, _, he.2, he.1, rfl, rfl, rfl⟩) | (simp only [RemP_eq] at he ⊢; exact ⟨_, _, _, he.2, he.1, rfl, rfl, rfl⟩) | (simp only [ShlP_eq] at he ⊢; exact ⟨_, _, _, he.2, he.1, rfl, rfl, rfl⟩) | (simp only [ShrP_eq] at he ⊢; exact ⟨_, _, _, he.2, he.1, rfl, rfl, rfl⟩))
  case cmp op k x y =>
    simp only [evI] at he ⊢
    (repeat' split at he) <;> first | exact he.elim | exact ⟨_, _, _, he, by simp only [*, if_true, and_self]⟩ | (refine ⟨_, _, _, he.2, ?_⟩; have hc := he.1; clear he; revert hc; simp only [*, if_true, and_self, and_true] <;> exact fun hc => hc) | exact ⟨_, _, _, he, by simp only [*, if_true, and_self]⟩ | (refine ⟨_, _, _, he.2, ?_⟩; have hc := he.1; clear he; revert hc; simp only [*, if_true, and_self, and_true] <;> exact fun hc => hc)
  case eq c neg x y =>
    simp only [evI] at he ⊢
    (repeat' split at he) <;> first | exact he.elim | exact ⟨_, _, _, he, by simp only [*, if_true, and_self]⟩ | (refine ⟨_, _, _, he.2, ?_⟩; have hc := he.1; clear he; revert hc; simp only [*, if_true, and_self, and_true] <;> exact fun hc => hc) | exact ⟨_, _, _, he, by simp only [*, if_true, and_self]⟩ | (refine ⟨_, _, _, he.2, ?_⟩; have hc := he.1; clear he; revert hc; simp only [*, if_true, and_self, and_true] <;> exact fun hc => hc)
  case eqa cs neg x y =>
    simp only [evI] at he ⊢
    (repeat' split at he) <;> first | exact he.elim | exact ⟨_, _, _, he, by simp only [*, if_true, and_self]⟩ | (refine ⟨_, _, _, he.2, ?_⟩; have hc := he.1; clear he; revert hc; simp only [*, if_true, and_self, and_true] <;> exact fun hc => hc) | exact ⟨_, _, _, he, by simp only [*, if_true, and_self]⟩ | (refine ⟨_, _, _, he.2, ?_⟩; have hc := he.1; clear he; revert hc; simp only [*, if_true, and_self, and_true] <;> exact fun hc => hc)
  case cat x y =>
    simp only [evI] at he ⊢
    (repeat' split at he) <;> first | exact he.elim | exact ⟨_, _, _, he, by simp only [*, if_true, and_self]⟩ | (refine ⟨_, _, _, he.2, ?_⟩; have hc := he.1; clear he; revert hc; simp only [*, if_true, and_self, and_true] <;> exact fun hc => hc) | exact ⟨_, _, _, he, by simp only [*, if_true, and_self]⟩ | (refine ⟨_, _, _, he.2, ?_⟩; have hc := he.1; clear he; revert hc; simp only [*, if_true, and_self, and_true] <;> exact fun hc => hc)
  case not x =>
    simp only [evI] at he ⊢
    (repeat' split at he) <;> first | exact he.elim | exact ⟨_, _, _, he, by simp only [*, if_true, and_self]⟩ | (refine ⟨_, _, _, he.2, ?_⟩; have hc := he.1; clear he; revert hc; simp only [*, if_true, and_self, and_true] <;> exact fun hc => hc) | exact ⟨_, _, _, he, by simp only [*, if_true, and_self]⟩ | (refine ⟨_, _, _, he.2, ?_⟩; have hc := he.1; clear he; revert hc; simp only [*, if_true, and_self, and_true] <;> exact fun hc => hc)
  case neg k x =>
    simp only [evI] at he ⊢
    (repeat' split at he) <;> first | exact he.elim | (rename_i hq; rw [ArP_eq] at he; refine ⟨_, _, _, he, ?_⟩; rw [hq]; rw [ArP_eq]; exact ⟨rfl, rfl, rfl⟩) | (simp only [*, if_true]; first | (simp only [ArP_eq] at he ⊢; exact ⟨_, _, _, he, rfl, rfl, rfl⟩) | (simp only [QuoP_eq] at he ⊢; exact ⟨_, _, _, he.2, he.1, rfl, rfl, rfl⟩) | (simp only [RemP_eq] at he ⊢; exact ⟨_, _, _, he.2, he.1, rfl, rfl, rfl⟩) | (simp only [ShlP_eq] at he ⊢; exact ⟨_, _, _, he.2, he.1, rfl, rfl, rfl⟩) | (simp only [ShrP_eq] at he ⊢; exact ⟨_, _, _, he.2, he.1, rfl, rfl, rfl⟩))
  case conv k x =>
    simp only [evI] at he ⊢
    split at he
    · rename_i hq
      rw [ArP_eq] at he
      refine ⟨_, _, _, he, ?_⟩
      rw [ArP_eq]
      simp
    · exact he.elim
  case fa off x =>
    simp only [evI] at he ⊢
    (repeat' split at he) <;> first | exact he.elim | exact ⟨_, _, _, he, by simp only [*, if_true, and_self]⟩ | (refine ⟨_, _, _, he.2, ?_⟩; have hc := he.1; clear he; revert hc; simp only [*, if_true, and_self, and_true] <;> exact fun hc => hc) | exact ⟨_, _, _, he, by simp only [*, if_true, and_self]⟩ | (refine ⟨_, _, _, he.2, ?_⟩; have hc := he.1; clear he; revert hc; simp only [*, if_true, and_self, and_true] <;> exact fun hc => hc) | (obtain ⟨v, h1, h2⟩ := pick_faX he; refine ⟨_, _, _, h1, ?_⟩; first | exact h2 _ ⟨rfl, rfl, rfl⟩ | (split <;> first | (exfalso; simp_all; done) | exact h2 _ ⟨rfl, rfl, rfl⟩))
  case ixs wd x i =>
    simp only [evI] at he ⊢
    (repeat' split at he) <;> first | exact he.elim | exact ⟨_, _, _, he, by simp only [*, if_true, and_self]⟩ | (refine ⟨_, _, _, he.2, ?_⟩; have hc := he.1; clear he; revert hc; simp only [*, if_true, and_self, and_true] <;> exact fun hc => hc) | exact ⟨_, _, _, he, by simp only [*, if_true, and_self]⟩ | (refine ⟨_, _, _, he.2, ?_⟩; have hc := he.1; clear he; revert hc; simp only [*, if_true, and_self, and_true] <;> exact fun hc => hc) | (obtain ⟨v, h1, h2⟩ := pick_ixsX he; refine ⟨_, _, _, h1, ?_⟩; first | exact h2 _ ⟨rfl, rfl, rfl⟩ | (split <;> first | (exfalso; simp_all; done) | exact h2 _ ⟨rfl, rfl, rfl⟩))
  case ixa sz m x i =>
    simp only [evI] at he ⊢
    (repeat' split at he) <;> first | exact he.elim | exact ⟨_, _, _, he, by simp only [*, if_true, and_self]⟩ | (refine ⟨_, _, _, he.2, ?_⟩; have hc := he.1; clear he; revert hc; simp only [*, if_true, and_self, and_true] <;> exact fun hc => hc) | exact ⟨_, _, _, he, by simp only [*, if_true, and_self]⟩ | (refine ⟨_, _, _, he.2, ?_⟩; have hc := he.1; clear he; revert hc; simp only [*, if_true, and_self, and_true] <;> exact fun hc => hc) | (obtain ⟨v, h1, h2⟩ := pick_ixaX he; refine ⟨_, _, _, h1, ?_⟩; first | exact h2 _ ⟨rfl, rfl, rfl⟩ | (split <;> first | (exfalso; simp_all; done) | exact h2 _ ⟨rfl, rfl, rfl⟩))
  case ixt x i =>
    simp only [evI] at he ⊢
    split at he
    · obtain ⟨h1, h2⟩ := he
      exact ⟨_, _, _, h2, by simp only [*, and_self]⟩
    · exact he.elim
  case fld off x =>
    simp only [evI] at he ⊢
    (repeat' split at he) <;> first | exact he.elim | exact ⟨_, _, _, he, by simp only [*, if_true, and_self]⟩ | (refine ⟨_, _, _, he.2, ?_⟩; have hc := he.1; clear he; revert hc; simp only [*, if_true, and_self, and_true] <;> exact fun hc => hc) | exact ⟨_, _, _, he, by simp only [*, if_true, and_self]⟩ | (refine ⟨_, _, _, he.2, ?_⟩; have hc := he.1; clear he; revert hc; simp only [*, if_true, and_self, and_true] <;> exact fun hc => hc)
  case flda off m x =>
    simp only [evI] at he ⊢
    (repeat' split at he) <;> first | exact he.elim | exact ⟨_, _, _, he, by simp only [*, if_true, and_self]⟩ | (refine ⟨_, _, _, he.2, ?_⟩; have hc := he.1; clear he; revert hc; simp only [*, if_true, and_self, and_true] <;> exact fun hc => hc) | exact ⟨_, _, _, he, by simp only [*, if_true, and_self]⟩ | (refine ⟨_, _, _, he.2, ?_⟩; have hc := he.1; clear he; revert hc; simp only [*, if_true, and_self, and_true] <;> exact fun hc => hc)
  case ext j x =>
    simp only [evI] at he ⊢
    (repeat' split at he) <;> first | exact he.elim | exact ⟨_, _, _, he, by simp only [*, if_true, and_self]⟩ | (refine ⟨_, _, _, he.2, ?_⟩; have hc := he.1; clear he; revert hc; simp only [*, if_true, and_self, and_true] <;> exact fun hc => hc) | exact ⟨_, _, _, he, by simp only [*, if_true, and_self]⟩ | (refine ⟨_, _, _, he.2, ?_⟩; have hc := he.1; clear he; revert hc; simp only [*, if_true, and_self, and_true] <;> exact fun hc => hc)
  case bld z parts =>
    simp only [evI, lvsK_eq] at he ⊢
    (repeat' split at he) <;> first | exact he.elim | exact ⟨_, _, _, he, by simp only [*, if_true, and_self]⟩ | (refine ⟨_, _, _, he.2, ?_⟩; have hc := he.1; clear he; revert hc; simp only [*, if_true, and_self, and_true] <;> exact fun hc => hc) | exact ⟨_, _, _, he, by simp only [*, if_true, and_self]⟩ | (refine ⟨_, _, _, he.2, ?_⟩; have hc := he.1; clear he; revert hc; simp only [*, if_true, and_self, and_true] <;> exact fun hc => hc)
  case bsl wd m z parts =>
    simp only [evI] at he ⊢
    (repeat' split at he) <;> first | exact he.elim | exact ⟨_, _, _, he, by simp only [*, if_true, and_self]⟩ | (refine ⟨_, _, _, he.2, ?_⟩; have hc := he.1; clear he; revert hc; simp only [*, if_true, and_self, and_true] <;> exact fun hc => hc) | exact ⟨_, _, _, he, by simp only [*, if_true, and_self]⟩ | (refine ⟨_, _, _, he.2, ?_⟩; have hc := he.1; clear he; revert hc; simp only [*, if_true, and_self, and_true] <;> exact fun hc => hc) | (obtain ⟨x, u, n', h1, h2⟩ := pick_bslX he; refine ⟨_, _, _, h1, ?_⟩; (try simp only [*]); first | exact h2 _ ⟨rfl, rfl, rfl⟩ | (split <;> first | (exfalso; simp_all; done) | exact h2 _ ⟨rfl, rfl, rfl⟩))
  case mks wd bytes z l c =>
    simp only [evI] at he ⊢
    (repeat' split at he) <;> first | exact he.elim | exact ⟨_, _, _, he, by simp only [*, if_true, and_self]⟩ | (refine ⟨_, _, _, he.2, ?_⟩; have hc := he.1; clear he; revert hc; simp only [*, if_true, and_self, and_true] <;> exact fun hc => hc) | exact ⟨_, _, _, he, by simp only [*, if_true, and_self]⟩ | (refine ⟨_, _, _, he.2, ?_⟩; have hc := he.1; clear he; revert hc; simp only [*, if_true, and_self, and_true] <;> exact fun hc => hc)
  case len x =>
    simp only [evI] at he ⊢
    (repeat' split at he) <;> first | exact he.elim | exact ⟨_, _, _, he, by simp only [*, if_true, and_self]⟩ | (refine ⟨_, _, _, he.2, ?_⟩; have hc := he.1; clear he; revert hc; simp only [*, if_true, and_self, and_true] <;> exact fun hc => hc) | exact ⟨_, _, _, he, by simp only [*, if_true, and_self]⟩ | (refine ⟨_, _, _, he.2, ?_⟩; have hc := he.1; clear he; revert hc; simp only [*, if_true, and_self, and_true] <;> exact fun hc => hc) | (obtain ⟨v, h1, h2⟩ := pick_lenX he; refine ⟨_, _, _, h1, ?_⟩; first | exact h2 _ ⟨rfl, rfl, rfl⟩ | (split <;> first | (exfalso; simp_all; done) | exact h2 _ ⟨rfl, rfl, rfl⟩))
  case lens x =>
    simp only [evI] at he ⊢
    (repeat' split at he) <;> first | exact he.elim | exact ⟨_, _, _, he, by simp only [*, if_true, and_self]⟩ | (refine ⟨_, _, _, he.2, ?_⟩; have hc := he.1; clear he; revert hc; simp only [*, if_true, and_self, and_true] <;> exact fun hc => hc) | exact ⟨_, _, _, he, by simp only [*, if_true, and_self]⟩ | (refine ⟨_, _, _, he.2, ?_⟩; have hc := he.1; clear he; revert hc; simp only [*, if_true, and_self, and_true] <;> exact fun hc => hc)
  case mx k x y =>
    simp only [evI] at he ⊢
    (repeat' split at he) <;> first | exact he.elim | exact ⟨_, _, _, he, by simp only [*, if_true, and_self]⟩ | (refine ⟨_, _, _, he.2, ?_⟩; have hc := he.1; clear he; revert hc; simp only [*, if_true, and_self, and_true] <;> exact fun hc => hc) | exact ⟨_, _, _, he, by simp only [*, if_true, and_self]⟩ | (refine ⟨_, _, _, he.2, ?_⟩; have hc := he.1; clear he; revert hc; simp only [*, if_true, and_self, and_true] <;> exact fun hc => hc)
  case mn k x y =>
    simp only [evI] at he ⊢
    (repeat' split at he) <;> first | exact he.elim | exact ⟨_, _, _, he, by simp only [*, if_true, and_self]⟩ | (refine ⟨_, _, _, he.2, ?_⟩; have hc := he.1; clear he; revert hc; simp only [*, if_true, and_self, and_true] <;> exact fun hc => hc) | exact ⟨_, _, _, he, by simp only [*, if_true, and_self]⟩ | (refine ⟨_, _, _, he.2, ?_⟩; have hc := he.1; clear he; revert hc; simp only [*, if_true, and_self, and_true] <;> exact fun hc => hc)
  case slc wd x lo up =>
    cases lo <;> cases up <;> simp only [evI] at he ⊢ <;> (repeat' split at he) <;> first | exact he.elim | exact ⟨_, _, _, he, by simp only [*, and_self]⟩ | exact ⟨_, _, _, he.2, by simp only [*, and_self]⟩ | (obtain ⟨v, h1, h2⟩ := pick_slcX he; refine ⟨_, _, _, h1, ?_⟩; first | exact h2 _ ⟨rfl, rfl, rfl⟩ | (split <;> first | (exfalso; simp_all; done) | exact h2 _ ⟨rfl, rfl, rfl⟩))
  case slt x lo up =>
    cases lo <;> cases up <;> simp only [evI] at he ⊢ <;> (repeat' split at he) <;> first | exact he.elim | exact ⟨_, _, _, he, by simp only [*, and_self]⟩ | exact ⟨_, _, _, he.2, by simp only [*, and_self]⟩
  case app wd bytes s x =>
    simp only [evI] at he ⊢
    (repeat' split at he) <;> first | exact he.elim | exact ⟨_, _, _, he, by simp only [*, if_true, and_self]⟩ | (refine ⟨_, _, _, he.2, ?_⟩; have hc := he.1; clear he; revert hc; simp only [*, if_true, and_self, and_true] <;> exact fun hc => hc) | exact ⟨_, _, _, he, by simp only [*, if_true, and_self]⟩ | (refine ⟨_, _, _, he.2, ?_⟩; have hc := he.1; clear he; revert hc; simp only [*, if_true, and_self, and_true] <;> exact fun hc => hc) | (obtain ⟨x, u, n', h1, h2⟩ := pick_appX he; refine ⟨_, _, _, h1, ?_⟩; first | exact h2 _ ⟨rfl, rfl, rfl⟩ | (split <;> first | (exfalso; simp_all; done) | exact h2 _ ⟨rfl, rfl, rfl⟩))
  case call f args =>
    simp only [evI] at he ⊢
    split at he
    · simp only [svK_eq, heapK_eq, natK_eq] at he ⊢
      rw [CallD_eq] at he
      obtain ⟨x, u, n', h1, h2⟩ := he
      refine ⟨x, u, n', h2, ?_⟩
      simp_all only
    · exact he.elim
  case callv fv args =>
    simp only [evI] at he ⊢
    split at he
    · simp only [svK_eq, heapK_eq, natK_eq] at he ⊢
      rw [CallD_eq] at he
      obtain ⟨x, u, n', h1, h2⟩ := he
      refine ⟨x, u, n', h2, ?_⟩
      simp_all only
    · exact he.elim
  case inv recv name args =>
    simp only [evI] at he ⊢
    split at he
    · simp only [svK_eq, heapK_eq, natK_eq] at he ⊢
      obtain ⟨x, u, n', h1, h2⟩ := he
      refine ⟨x, u, n', h2, ?_⟩
      simp_all only
    · exact he.elim
  case mki t x =>
    simp only [evI] at he ⊢
    (repeat' split at he) <;> first | exact he.elim | exact ⟨_, _, _, he, by simp only [*, if_true, and_self]⟩ | (refine ⟨_, _, _, he.2, ?_⟩; have hc := he.1; clear he; revert hc; simp only [*, if_true, and_self, and_true] <;> exact fun hc => hc) | exact ⟨_, _, _, he, by simp only [*, if_true, and_self]⟩ | (refine ⟨_, _, _, he.2, ?_⟩; have hc := he.1; clear he; revert hc; simp only [*, if_true, and_self, and_true] <;> exact fun hc => hc)
  case mkf f caps =>
    simp only [evI] at he ⊢
    (repeat' split at he) <;> first | exact he.elim | exact ⟨_, _, _, he, by simp only [*, if_true, and_self]⟩ | (refine ⟨_, _, _, he.2, ?_⟩; have hc := he.1; clear he; revert hc; simp only [*, if_true, and_self, and_true] <;> exact fun hc => hc) | exact ⟨_, _, _, he, by simp only [*, if_true, and_self]⟩ | (refine ⟨_, _, _, he.2, ?_⟩; have hc := he.1; clear he; revert hc; simp only [*, if_true, and_self, and_true] <;> exact fun hc => hc)
  case mp q qe op =>
    cases op <;> simp only [evI, evM] at he ⊢ <;> (repeat' first | (obtain ⟨nn, _, _, hK, hq⟩ := keyK_out he; refine ⟨_, _, _, hK, ?_⟩; clear he; simp only [*, if_true]; exact hq _ (by first | exact ⟨rfl, rfl, rfl⟩ | simp)) | split at he) <;> first | exact he.elim | exact he.elim | exact ⟨_, _, _, he, by simp only [*, if_true, and_self]⟩ | exact ⟨_, _, _, he.2, by simp only [*, if_true, and_self, he.1]⟩ | (refine ⟨_, _, _, he.2, ?_⟩; have hc := he.1; clear he; simp only [*, if_true, and_self])
  case esc op =>
    simp only [evI] at he ⊢
    obtain ⟨x, u, n', h1, h2⟩ := he
    exact ⟨x, u, n', h2, h1⟩
theorem pure_I {G : Ctx} {i : I} (hi : drawI i = true) (hp : pureI i = true) {r : Regs} {h : Heap} {n : Nat} {x : SV} {u : Heap} {n' : Nat} (he : evI (CallP G) (InvP G) (EscR G) i r h n (fun x' u' m => x' = x ∧ u' = u ∧ m = n')) :
    u = [] ∧ n' = n := by
  cases i
  case mov x =>
    simp only [evI] at he
    (repeat' split at he) <;> first | exact he.elim | exact ⟨he.2.1.symm, he.2.2.symm⟩ | exact ⟨he.2.2.1.symm, he.2.2.2.symm⟩ | (rw [ArP_eq] at he; exact ⟨he.2.1.symm, he.2.2.symm⟩) | (rw [QuoP_eq] at he; exact ⟨he.2.2.1.symm, he.2.2.2.symm⟩) | (rw [RemP_eq] at he; exact ⟨he.2.2.1.symm, he.2.2.2.symm⟩) | (rw [ShlP_eq] at he; exact ⟨he.2.2.1.symm, he.2.2.2.symm⟩) | (rw [ShrP_eq] at he; exact ⟨he.2.2.1.symm, he.2.2.2.symm⟩)
  case pick c a b =>
    simp only [evI] at he
    split at he
    · rcases rec_cases he with ⟨_, hb⟩ | ⟨_, hb⟩ <;> split at hb <;> first | exact hb.elim | exact ⟨hb.2.1.symm, hb.2.2.symm⟩
    · exact he.elim
  case alloc z =>
    simp [pureI] at hp
  case box x =>
    simp [pureI] at hp
  case ld x =>
    simp only [evI] at he
    split at he
    · obtain ⟨x, h1, h2⟩ := pick_ld he
      exact ⟨h1.2.1.symm, h1.2.2.symm⟩
    · obtain ⟨v, h1, h2⟩ := pick_ldX he; exact ⟨h1.2.1.symm, h1.2.2.symm⟩
  case lda m x =>
    simp only [evI] at he
    split at he
    · obtain ⟨x, h1, h2⟩ := pick_ldm he
      exact ⟨h1.2.1.symm, h1.2.2.symm⟩
    · obtain ⟨v, h1, h2⟩ := pick_ldsX he; exact ⟨h1.2.1.symm, h1.2.2.symm⟩
  case sto m a x =>
    simp [pureI] at hp
  case nck x =>
    simp only [evI] at he
    (repeat' split at he) <;> first | exact he.elim | exact ⟨he.2.1.symm, he.2.2.symm⟩ | exact ⟨he.2.2.1.symm, he.2.2.2.symm⟩ | (rw [ArP_eq] at he; exact ⟨he.2.1.symm, he.2.2.symm⟩) | (rw [QuoP_eq] at he; exact ⟨he.2.2.1.symm, he.2.2.2.symm⟩) | (rw [RemP_eq] at he; exact ⟨he.2.2.1.symm, he.2.2.2.symm⟩) | (rw [ShlP_eq] at he; exact ⟨he.2.2.1.symm, he.2.2.2.symm⟩) | (rw [ShrP_eq] at he; exact ⟨he.2.2.1.symm, he.2.2.2.symm⟩) | (obtain ⟨v, h1, h2⟩ := pick_faX he; exact ⟨h1.2.1.symm, h1.2.2.symm⟩)
  case ar op k x y =>
    simp only [evI] at he
    (repeat' split at he) <;> first | exact he.elim | exact ⟨he.2.1.symm, he.2.2.symm⟩ | exact ⟨he.2.2.1.symm, he.2.2.2.symm⟩ | (rw [ArP_eq] at he; exact ⟨he.2.1.symm, he.2.2.symm⟩) | (rw [QuoP_eq] at he; exact ⟨he.2.2.1.symm, he.2.2.2.symm⟩) | (rw [RemP_eq] at he; exact ⟨he.2.2.1.symm, he.2.2.2.symm⟩) | (rw [ShlP_eq] at he; exact ⟨he.2.2.1.symm, he.2.2.2.symm⟩) | (rw [ShrP_eq] at he; exact ⟨he.2.2.1.symm, he.2.2.2.symm⟩)
  case dv op k x y =>
    simp only [evI] at he
    (repeat' split at he) <;> first | exact he.elim | exact ⟨he.2.1.symm, he.2.2.symm⟩ | exact ⟨he.2.2.1.symm, he.2.2.2.symm⟩ | (rw [ArP_eq] at he; exact ⟨he.2.1.symm, he.2.2.symm⟩) | (rw [QuoP_eq] at he; exact ⟨he.2.2.1.symm, he.2.2.2.symm⟩) | (rw [RemP_eq] at he; exact ⟨he.2.2.1.symm, he.2.2.2.symm⟩) | (rw [ShlP_eq] at he; exact ⟨he.2.2.1.symm, he.2.2.2.symm⟩) | (rw [ShrP_eq] at he; exact ⟨he.2.2.1.symm, he.2.2.2.symm⟩)
  case bt op k x y =>
    simp only [evI] at he
    (repeat' split at he) <;> first | exact he.elim | exact ⟨he.2.1.symm, he.2.2.symm⟩ | exact ⟨he.2.2.1.symm, he.2.2.2.symm⟩ | (rw [ArP_eq] at he; exact ⟨he.2.1.symm, he.2.2.symm⟩) | (rw [QuoP_eq] at he; exact ⟨he.2.2.1.symm, he.2.2.2.symm⟩) | (rw [RemP_eq] at he; exact ⟨he.2.2.1.symm, he.2.2.2.symm⟩) | (rw [ShlP_eq] at he; exact ⟨he.2.2.1.symm, he.2.2.2.symm⟩) | (rw [ShrP_eq] at he; exact ⟨he.2.2.1.symm, he.2.2.2.symm⟩)
  case sh op k x y =>
    simp only [evI] at he
    (repeat' split at he) <;> first | exact he.elim | exact ⟨he.2.1.symm, he.2.2.symm⟩ | exact ⟨he.2.2.1.symm, he.2.2.2.symm⟩ | (rw [ArP_eq] at he; exact ⟨he.2.1.symm, he.2.2.symm⟩) | (rw [QuoP_eq] at he; exact ⟨he.2.2.1.symm, he.2.2.2.symm⟩) | (rw [RemP_eq] at he; exact ⟨he.2.2.1.symm, he.2.2.2.symm⟩) | (rw [ShlP_eq] at he; exact ⟨he.2.2.1.symm, he.2.2.2.symm⟩) | (rw [ShrP_eq] at he; exact ⟨he.2.2.1.symm, he.2.2.2.symm⟩)
  case cmp op k x y =>
    simp only [evI] at he
    (repeat' split at he) <;> first | exact he.elim | exact ⟨he.2.1.symm, he.2.2.symm⟩ | exact ⟨he.2.2.1.symm, he.2.2.2.symm⟩ | (rw [ArP_eq] at he; exact ⟨he.2.1.symm, he.2.2.symm⟩) | (rw [QuoP_eq] at he; exact ⟨he.2.2.1.symm, he.2.2.2.symm⟩) | (rw [RemP_eq] at he; exact ⟨he.2.2.1.symm, he.2.2.2.symm⟩) | (rw [ShlP_eq] at he; exact ⟨he.2.2.1.symm, he.2.2.2.symm⟩) | (rw [ShrP_eq] at he; exact ⟨he.2.2.1.symm, he.2.2.2.symm⟩)
  case eq c neg x y =>
    simp only [evI] at he
    (repeat' split at he) <;> first | exact he.elim | exact ⟨he.2.1.symm, he.2.2.symm⟩ | exact ⟨he.2.2.1.symm, he.2.2.2.symm⟩ | (rw [ArP_eq] at he; exact ⟨he.2.1.symm, he.2.2.symm⟩) | (rw [QuoP_eq] at he; exact ⟨he.2.2.1.symm, he.2.2.2.symm⟩) | (rw [RemP_eq] at he; exact ⟨he.2.2.1.symm, he.2.2.2.symm⟩) | (rw [ShlP_eq] at he; exact ⟨he.2.2.1.symm, he.2.2.2.symm⟩) | (rw [ShrP_eq] at he; exact ⟨he.2.2.1.symm, he.2.2.2.symm⟩)
  case eqa cs neg x y =>
    simp only [evI] at he
    (repeat' split at he) <;> first | exact he.elim | exact ⟨he.2.1.symm, he.2.2.symm⟩ | exact ⟨he.2.2.1.symm, he.2.2.2.symm⟩ | (rw [ArP_eq] at he; exact ⟨he.2.1.symm, he.2.2.symm⟩) | (rw [QuoP_eq] at he; exact ⟨he.2.2.1.symm, he.2.2.2.symm⟩) | (rw [RemP_eq] at he; exact ⟨he.2.2.1.symm, he.2.2.2.symm⟩) | (rw [ShlP_eq] at he; exact ⟨he.2.2.1.symm, he.2.2.2.symm⟩) | (rw [ShrP_eq] at he; exact ⟨he.2.2.1.symm, he.2.2.2.symm⟩)
  case cat x y =>
    simp only [evI] at he
    (repeat' split at he) <;> first | exact he.elim | exact ⟨he.2.1.symm, he.2.2.symm⟩ | exact ⟨he.2.2.1.symm, he.2.2.2.symm⟩ | (rw [ArP_eq] at he; exact ⟨he.2.1.symm, he.2.2.symm⟩) | (rw [QuoP_eq] at he; exact ⟨he.2.2.1.symm, he.2.2.2.symm⟩) | (rw [RemP_eq] at he; exact ⟨he.2.2.1.symm, he.2.2.2.symm⟩) | (rw [ShlP_eq] at he; exact ⟨he.2.2.1.symm, he.2.2.2.symm⟩) | (rw [ShrP_eq] at he; exact ⟨he.2.2.1.symm, he.2.2.2.symm⟩)
  case not x =>
    simp only [evI] at he
    (repeat' split at he) <;> first | exact he.elim | exact ⟨he.2.1.symm, he.2.2.symm⟩ | exact ⟨he.2.2.1.symm, he.2.2.2.symm⟩ | (rw [ArP_eq] at he; exact ⟨he.2.1.symm, he.2.2.symm⟩) | (rw [QuoP_eq] at he; exact ⟨he.2.2.1.symm, he.2.2.2.symm⟩) | (rw [RemP_eq] at he; exact ⟨he.2.2.1.symm, he.2.2.2.symm⟩) | (rw [ShlP_eq] at he; exact ⟨he.2.2.1.symm, he.2.2.2.symm⟩) | (rw [ShrP_eq] at he; exact ⟨he.2.2.1.symm, he.2.2.2.symm⟩)
  case neg k x =>
    simp only [evI] at he
    (repeat' split at he) <;> first | exact he.elim | exact ⟨he.2.1.symm, he.2.2.symm⟩ | exact ⟨he.2.2.1.symm, he.2.2.2.symm⟩ | (rw [ArP_eq] at he; exact ⟨he.2.1.symm, he.2.2.symm⟩) | (rw [QuoP_eq] at he; exact ⟨he.2.2.1.symm, he.2.2.2.symm⟩) | (rw [RemP_eq] at he; exact ⟨he.2.2.1.symm, he.2.2.2.symm⟩) | (rw [ShlP_eq] at he; exact ⟨he.2.2.1.symm, he.2.2.2.symm⟩) | (rw [ShrP_eq] at he; exact ⟨he.2.2.1.symm, he.2.2.2.symm⟩)
  case conv k x =>
    simp only [evI] at he
    (repeat' split at he) <;> first | exact he.elim | exact ⟨he.2.1.symm, he.2.2.symm⟩ | exact ⟨he.2.2.1.symm, he.2.2.2.symm⟩ | (rw [ArP_eq] at he; exact ⟨he.2.1.symm, he.2.2.symm⟩) | (rw [QuoP_eq] at he; exact ⟨he.2.2.1.symm, he.2.2.2.symm⟩) | (rw [RemP_eq] at he; exact ⟨he.2.2.1.symm, he.2.2.2.symm⟩) | (rw [ShlP_eq] at he; exact ⟨he.2.2.1.symm, he.2.2.2.symm⟩) | (rw [ShrP_eq] at he; exact ⟨he.2.2.1.symm, he.2.2.2.symm⟩)
  case fa off x =>
    simp only [evI] at he
    (repeat' split at he) <;> first | exact he.elim | exact ⟨he.2.1.symm, he.2.2.symm⟩ | exact ⟨he.2.2.1.symm, he.2.2.2.symm⟩ | (rw [ArP_eq] at he; exact ⟨he.2.1.symm, he.2.2.symm⟩) | (rw [QuoP_eq] at he; exact ⟨he.2.2.1.symm, he.2.2.2.symm⟩) | (rw [RemP_eq] at he; exact ⟨he.2.2.1.symm, he.2.2.2.symm⟩) | (rw [ShlP_eq] at he; exact ⟨he.2.2.1.symm, he.2.2.2.symm⟩) | (rw [ShrP_eq] at he; exact ⟨he.2.2.1.symm, he.2.2.2.symm⟩) | (obtain ⟨v, h1, h2⟩ := pick_faX he; exact ⟨h1.2.1.symm, h1.2.2.symm⟩)
  case ixs wd x i =>
    simp only [evI] at he
    (repeat' split at he) <;> first | exact he.elim | exact ⟨he.2.1.symm, he.2.2.symm⟩ | exact ⟨he.2.2.1.symm, he.2.2.2.symm⟩ | (rw [ArP_eq] at he; exact ⟨he.2.1.symm, he.2.2.symm⟩) | (rw [QuoP_eq] at he; exact ⟨he.2.2.1.symm, he.2.2.2.symm⟩) | (rw [RemP_eq] at he; exact ⟨he.2.2.1.symm, he.2.2.2.symm⟩) | (rw [ShlP_eq] at he; exact ⟨he.2.2.1.symm, he.2.2.2.symm⟩) | (rw [ShrP_eq] at he; exact ⟨he.2.2.1.symm, he.2.2.2.symm⟩) | (obtain ⟨v, h1, h2⟩ := pick_ixsX he; exact ⟨h1.2.1.symm, h1.2.2.symm⟩)
  case ixa sz m x i =>
    simp only [evI] at he
    (repeat' split at he) <;> first | exact he.elim | exact ⟨he.2.1.symm, he.2.2.symm⟩ | exact ⟨he.2.2.1.symm, he.2.2.2.symm⟩ | (rw [ArP_eq] at he; exact ⟨he.2.1.symm, he.2.2.symm⟩) | (rw [QuoP_eq] at he; exact ⟨he.2.2.1.symm, he.2.2.2.symm⟩) | (rw [RemP_eq] at he; exact ⟨he.2.2.1.symm, he.2.2.2.symm⟩) | (rw [ShlP_eq] at he; exact ⟨he.2.2.1.symm, he.2.2.2.symm⟩) | (rw [ShrP_eq] at he; exact ⟨he.2.2.1.symm, he.2.2.2.symm⟩) | (obtain ⟨v, h1, h2⟩ := pick_ixaX he; exact ⟨h1.2.1.symm, h1.2.2.symm⟩)
  case ixt x i =>
    simp only [evI] at he
    split at he
    · exact ⟨he.2.2.1.symm, he.2.2.2.symm⟩
    · exact he.elim
  case fld off x =>
    simp only [evI] at he
    (repeat' split at he) <;> first | exact he.elim | exact ⟨he.2.1.symm, he.2.2.symm⟩ | exact ⟨he.2.2.1.symm, he.2.2.2.symm⟩ | (rw [ArP_eq] at he; exact ⟨he.2.1.symm, he.2.2.symm⟩) | (rw [QuoP_eq] at he; exact ⟨he.2.2.1.symm, he.2.2.2.symm⟩) | (rw [RemP_eq] at he; exact ⟨he.2.2.1.symm, he.2.2.2.symm⟩) | (rw [ShlP_eq] at he; exact ⟨he.2.2.1.symm, he.2.2.2.symm⟩) | (rw [ShrP_eq] at he; exact ⟨he.2.2.1.symm, he.2.2.2.symm⟩)
  case flda off m x =>
    simp only [evI] at he
    (repeat' split at he) <;> first | exact he.elim | exact ⟨he.2.1.symm, he.2.2.symm⟩ | exact ⟨he.2.2.1.symm, he.2.2.2.symm⟩ | (rw [ArP_eq] at he; exact ⟨he.2.1.symm, he.2.2.symm⟩) | (rw [QuoP_eq] at he; exact ⟨he.2.2.1.symm, he.2.2.2.symm⟩) | (rw [RemP_eq] at he; exact ⟨he.2.2.1.symm, he.2.2.2.symm⟩) | (rw [ShlP_eq] at he; exact ⟨he.2.2.1.symm, he.2.2.2.symm⟩) | (rw [ShrP_eq] at he; exact ⟨he.2.2.1.symm, he.2.2.2.symm⟩)
  case ext j x =>
    simp only [evI] at he
    (repeat' split at he) <;> first | exact he.elim | exact ⟨he.2.1.symm, he.2.2.symm⟩ | exact ⟨he.2.2.1.symm, he.2.2.2.symm⟩ | (rw [ArP_eq] at he; exact ⟨he.2.1.symm, he.2.2.symm⟩) | (rw [QuoP_eq] at he; exact ⟨he.2.2.1.symm, he.2.2.2.symm⟩) | (rw [RemP_eq] at he; exact ⟨he.2.2.1.symm, he.2.2.2.symm⟩) | (rw [ShlP_eq] at he; exact ⟨he.2.2.1.symm, he.2.2.2.symm⟩) | (rw [ShrP_eq] at he; exact ⟨he.2.2.1.symm, he.2.2.2.symm⟩)
  case bld z parts =>
    simp only [evI, lvsK_eq] at he
    (repeat' split at he) <;> first | exact he.elim | exact ⟨he.2.1.symm, he.2.2.symm⟩ | exact ⟨he.2.2.1.symm, he.2.2.2.symm⟩ | (rw [ArP_eq] at he; exact ⟨he.2.1.symm, he.2.2.symm⟩) | (rw [QuoP_eq] at he; exact ⟨he.2.2.1.symm, he.2.2.2.symm⟩) | (rw [RemP_eq] at he; exact ⟨he.2.2.1.symm, he.2.2.2.symm⟩) | (rw [ShlP_eq] at he; exact ⟨he.2.2.1.symm, he.2.2.2.symm⟩) | (rw [ShrP_eq] at he; exact ⟨he.2.2.1.symm, he.2.2.2.symm⟩)
  case bsl wd m z parts =>
    simp [pureI] at hp
  case mks wd bytes z l c =>
    simp [pureI] at hp
  case len x =>
    simp only [evI] at he
    (repeat' split at he) <;> first | exact he.elim | exact ⟨he.2.1.symm, he.2.2.symm⟩ | exact ⟨he.2.2.1.symm, he.2.2.2.symm⟩ | (rw [ArP_eq] at he; exact ⟨he.2.1.symm, he.2.2.symm⟩) | (rw [QuoP_eq] at he; exact ⟨he.2.2.1.symm, he.2.2.2.symm⟩) | (rw [RemP_eq] at he; exact ⟨he.2.2.1.symm, he.2.2.2.symm⟩) | (rw [ShlP_eq] at he; exact ⟨he.2.2.1.symm, he.2.2.2.symm⟩) | (rw [ShrP_eq] at he; exact ⟨he.2.2.1.symm, he.2.2.2.symm⟩) | (obtain ⟨v, h1, h2⟩ := pick_lenX he; exact ⟨h1.2.1.symm, h1.2.2.symm⟩)
  case lens x =>
    simp only [evI] at he
    (repeat' split at he) <;> first | exact he.elim | exact ⟨he.2.1.symm, he.2.2.symm⟩ | exact ⟨he.2.2.1.symm, he.2.2.2.symm⟩ | (rw [ArP_eq] at he; exact ⟨he.2.1.symm, he.2.2.symm⟩) | (rw [QuoP_eq] at he; exact ⟨he.2.2.1.symm, he.2.2.2.symm⟩) | (rw [RemP_eq] at he; exact ⟨he.2.2.1.symm, he.2.2.2.symm⟩) | (rw [ShlP_eq] at he; exact ⟨he.2.2.1.symm, he.2.2.2.symm⟩) | (rw [ShrP_eq] at he; exact ⟨he.2.2.1.symm, he.2.2.2.symm⟩)
  case mx k x y =>
    simp only [evI] at he
    (repeat' split at he) <;> first | exact he.elim | exact ⟨he.2.1.symm, he.2.2.symm⟩ | exact ⟨he.2.2.1.symm, he.2.2.2.symm⟩ | (rw [ArP_eq] at he; exact ⟨he.2.1.symm, he.2.2.symm⟩) | (rw [QuoP_eq] at he; exact ⟨he.2.2.1.symm, he.2.2.2.symm⟩) | (rw [RemP_eq] at he; exact ⟨he.2.2.1.symm, he.2.2.2.symm⟩) | (rw [ShlP_eq] at he; exact ⟨he.2.2.1.symm, he.2.2.2.symm⟩) | (rw [ShrP_eq] at he; exact ⟨he.2.2.1.symm, he.2.2.2.symm⟩)
  case mn k x y =>
    simp only [evI] at he
    (repeat' split at he) <;> first | exact he.elim | exact ⟨he.2.1.symm, he.2.2.symm⟩ | exact ⟨he.2.2.1.symm, he.2.2.2.symm⟩ | (rw [ArP_eq] at he; exact ⟨he.2.1.symm, he.2.2.symm⟩) | (rw [QuoP_eq] at he; exact ⟨he.2.2.1.symm, he.2.2.2.symm⟩) | (rw [RemP_eq] at he; exact ⟨he.2.2.1.symm, he.2.2.2.symm⟩) | (rw [ShlP_eq] at he; exact ⟨he.2.2.1.symm, he.2.2.2.symm⟩) | (rw [ShrP_eq] at he; exact ⟨he.2.2.1.symm, he.2.2.2.symm⟩)
  case slc wd x lo up =>
    cases lo <;> cases up <;> simp only [evI] at he <;> (repeat' split at he) <;> first | exact he.elim | exact ⟨he.2.1.symm, he.2.2.symm⟩ | exact ⟨he.2.2.1.symm, he.2.2.2.symm⟩ | (rw [ArP_eq] at he; exact ⟨he.2.1.symm, he.2.2.symm⟩) | (rw [QuoP_eq] at he; exact ⟨he.2.2.1.symm, he.2.2.2.symm⟩) | (rw [RemP_eq] at he; exact ⟨he.2.2.1.symm, he.2.2.2.symm⟩) | (rw [ShlP_eq] at he; exact ⟨he.2.2.1.symm, he.2.2.2.symm⟩) | (rw [ShrP_eq] at he; exact ⟨he.2.2.1.symm, he.2.2.2.symm⟩) | (obtain ⟨v, h1, h2⟩ := pick_slcX he; exact ⟨h1.2.1.symm, h1.2.2.symm⟩)
  case slt x lo up =>
    cases lo <;> cases up <;> simp only [evI] at he <;> (repeat' split at he) <;> first | exact he.elim | exact ⟨he.2.1.symm, he.2.2.symm⟩ | exact ⟨he.2.2.1.symm, he.2.2.2.symm⟩ | (rw [ArP_eq] at he; exact ⟨he.2.1.symm, he.2.2.symm⟩) | (rw [QuoP_eq] at he; exact ⟨he.2.2.1.symm, he.2.2.2.symm⟩) | (rw [RemP_eq] at he; exact ⟨he.2.2.1.symm, he.2.2.2.symm⟩) | (rw [ShlP_eq] at he; exact ⟨he.2.2.1.symm, he.2.2.2.symm⟩) | (rw [ShrP_eq] at he; exact ⟨he.2.2.1.symm, he.2.2.2.symm⟩)
  case app wd bytes s x =>
    simp [pureI] at hp
  case call f args =>
    simp [pureI] at hp
  case callv fv args =>
    simp [pureI] at hp
  case inv recv name args =>
    simp [pureI] at hp
  case mki t x =>
    simp only [evI] at he
    (repeat' split at he) <;> first | exact he.elim | exact ⟨he.2.1.symm, he.2.2.symm⟩ | exact ⟨he.2.2.1.symm, he.2.2.2.symm⟩ | (rw [ArP_eq] at he; exact ⟨he.2.1.symm, he.2.2.symm⟩) | (rw [QuoP_eq] at he; exact ⟨he.2.2.1.symm, he.2.2.2.symm⟩) | (rw [RemP_eq] at he; exact ⟨he.2.2.1.symm, he.2.2.2.symm⟩) | (rw [ShlP_eq] at he; exact ⟨he.2.2.1.symm, he.2.2.2.symm⟩) | (rw [ShrP_eq] at he; exact ⟨he.2.2.1.symm, he.2.2.2.symm⟩)
  case mkf f caps =>
    simp only [evI] at he
    (repeat' split at he) <;> first | exact he.elim | exact ⟨he.2.1.symm, he.2.2.symm⟩ | exact ⟨he.2.2.1.symm, he.2.2.2.symm⟩ | (rw [ArP_eq] at he; exact ⟨he.2.1.symm, he.2.2.symm⟩) | (rw [QuoP_eq] at he; exact ⟨he.2.2.1.symm, he.2.2.2.symm⟩) | (rw [RemP_eq] at he; exact ⟨he.2.2.1.symm, he.2.2.2.symm⟩) | (rw [ShlP_eq] at he; exact ⟨he.2.2.1.symm, he.2.2.2.symm⟩) | (rw [ShrP_eq] at he; exact ⟨he.2.2.1.symm, he.2.2.2.symm⟩)
  case mp q qe op =>
    cases op <;> simp only [pureI, pureM] at hp <;> first | (cases hp; done) | skip
    case ln m => simp only [evI, evM] at he; (repeat' split at he) <;> first | exact he.elim | exact ⟨he.2.1.symm, he.2.2.symm⟩
    case lk m i =>
      simp only [evI, evM] at he
      split at he
      · split at he
        · split at he
          · split at he
            · obtain ⟨_, _, _, hK, _⟩ := keyK_out he; exact ⟨hK.2.1.symm, hK.2.2.symm⟩
            · exact he.elim
          · exact he.elim
        · exact he.elim
      · exact he.elim
  case esc op =>
    simp [pureI] at hp
theorem free_I {G : Ctx} {i : I} (hi : drawI i = true) (hp : freeI i = true) {r : Regs} {h : Heap} {n : Nat} {x : SV} {u : Heap} {n' : Nat} (he : evI (CallP G) (InvP G) (EscR G) i r h n (fun x' u' m => x' = x ∧ u' = u ∧ m = n')) (h2 : Heap) (n2 : Nat) {K : SV → Heap → Nat → Prop} (hk : K x [] n2) :
    evI (CallP G) (InvP G) (EscR G) i r h2 n2 K := by
  cases i
  case mov x =>
    simp only [evI] at he ⊢
    (repeat' split at he) <;> first | exact he.elim | (obtain ⟨rfl, _⟩ := he; exact hk) | (obtain ⟨hc, rfl, _⟩ := he; exact ⟨hc, hk⟩) | (simp only [ArP_eq] at he ⊢; (obtain ⟨rfl, _⟩ := he; exact hk)) | (simp only [QuoP_eq] at he ⊢; (obtain ⟨hc, rfl, _⟩ := he; exact ⟨hc, hk⟩)) | (simp only [RemP_eq] at he ⊢; (obtain ⟨hc, rfl, _⟩ := he; exact ⟨hc, hk⟩)) | (simp only [ShlP_eq] at he ⊢; (obtain ⟨hc, rfl, _⟩ := he; exact ⟨hc, hk⟩)) | (simp only [ShrP_eq] at he ⊢; (obtain ⟨hc, rfl, _⟩ := he; exact ⟨hc, hk⟩)) | (obtain ⟨rfl, _⟩ := he; subst_vars; simpa using hk) | (simp only [*, if_true]; first | (obtain ⟨rfl, _⟩ := he; exact hk) | (obtain ⟨hc, rfl, _⟩ := he; exact ⟨hc, hk⟩) | (simp only [ArP_eq] at he ⊢; (obtain ⟨rfl, _⟩ := he; exact hk)) | (simp only [QuoP_eq] at he ⊢; (obtain ⟨hc, rfl, _⟩ := he; exact ⟨hc, hk⟩)) | (simp only [RemP_eq] at he ⊢; (obtain ⟨hc, rfl, _⟩ := he; exact ⟨hc, hk⟩)) | (simp only [ShlP_eq] at he ⊢; (obtain ⟨hc, rfl, _⟩ := he; exact ⟨hc, hk⟩)) | (simp only [ShrP_eq] at he ⊢; (obtain ⟨hc, rfl, _⟩ := he; exact ⟨hc, hk⟩)))
  case pick c a b =>
    simp only [evI] at he ⊢
    split at he
    · rcases rec_cases he with ⟨rfl, hb⟩ | ⟨rfl, hb⟩ <;> clear he <;> split at hb <;> first | exact hb.elim | (rename_i v hv; obtain ⟨rfl, _⟩ := hb; simpa [hv] using hk)
    · exact he.elim
  case alloc z =>
    simp [freeI] at hp
  case box x =>
    simp [freeI] at hp
  case ld x =>
    simp [freeI] at hp
  case lda m x =>
    simp [freeI] at hp
  case sto m a x =>
    simp [freeI] at hp
  case nck x =>
    simp only [evI] at he ⊢
    (repeat' split at he) <;> first | exact he.elim | (obtain ⟨rfl, _⟩ := he; exact hk) | (obtain ⟨hc, rfl, _⟩ := he; exact ⟨hc, hk⟩) | (simp only [ArP_eq] at he ⊢; (obtain ⟨rfl, _⟩ := he; exact hk)) | (simp only [QuoP_eq] at he ⊢; (obtain ⟨hc, rfl, _⟩ := he; exact ⟨hc, hk⟩)) | (simp only [RemP_eq] at he ⊢; (obtain ⟨hc, rfl, _⟩ := he; exact ⟨hc, hk⟩)) | (simp only [ShlP_eq] at he ⊢; (obtain ⟨hc, rfl, _⟩ := he; exact ⟨hc, hk⟩)) | (simp only [ShrP_eq] at he ⊢; (obtain ⟨hc, rfl, _⟩ := he; exact ⟨hc, hk⟩)) | (obtain ⟨rfl, _⟩ := he; subst_vars; simpa using hk) | (simp only [*, if_true]; first | (obtain ⟨rfl, _⟩ := he; exact hk) | (obtain ⟨hc, rfl, _⟩ := he; exact ⟨hc, hk⟩) | (simp only [ArP_eq] at he ⊢; (obtain ⟨rfl, _⟩ := he; exact hk)) | (simp only [QuoP_eq] at he ⊢; (obtain ⟨hc, rfl, _⟩ := he; exact ⟨hc, hk⟩)) | (simp only [RemP_eq] at he ⊢; (obtain ⟨hc, rfl, _⟩ := he; exact ⟨hc, hk⟩)) | (simp only [ShlP_eq] at he ⊢; (obtain ⟨hc, rfl, _⟩ := he; exact ⟨hc, hk⟩)) | (simp only [ShrP_eq] at he ⊢; (obtain ⟨hc, rfl, _⟩ := he; exact ⟨hc, hk⟩))) | (obtain ⟨v, ⟨rfl, _, _⟩, h2⟩ := pick_faX he; first | exact h2 _ hk | (split <;> first | (exfalso; simp_all; done) | exact h2 _ hk))
  case ar op k x y =>
    simp only [evI] at he ⊢
    (repeat' split at he) <;> first | exact he.elim | (obtain ⟨rfl, _⟩ := he; exact hk) | (obtain ⟨hc, rfl, _⟩ := he; exact ⟨hc, hk⟩) | (simp only [ArP_eq] at he ⊢; (obtain ⟨rfl, _⟩ := he; exact hk)) | (simp only [QuoP_eq] at he ⊢; (obtain ⟨hc, rfl, _⟩ := he; exact ⟨hc, hk⟩)) | (simp only [RemP_eq] at he ⊢; (obtain ⟨hc, rfl, _⟩ := he; exact ⟨hc, hk⟩)) | (simp only [ShlP_eq] at he ⊢; (obtain ⟨hc, rfl, _⟩ := he; exact ⟨hc, hk⟩)) | (simp only [ShrP_eq] at he ⊢; (obtain ⟨hc, rfl, _⟩ := he; exact ⟨hc, hk⟩)) | (obtain ⟨rfl, _⟩ := he; subst_vars; simpa using hk) | (simp only [*, if_true]; first | (obtain ⟨rfl, _⟩ := he; exact hk) | (obtain ⟨hc, rfl, _⟩ := he; exact ⟨hc, hk⟩) | (simp only [ArP_eq] at he ⊢; (obtain ⟨rfl, _⟩ := he; exact hk)) | (simp only [QuoP_eq] at he ⊢; (obtain ⟨hc, rfl, _⟩ := he; exact ⟨hc, hk⟩)) | (simp only [RemP_eq] at he ⊢; (obtain ⟨hc, rfl, _⟩ := he; exact ⟨hc, hk⟩)) | (simp only [ShlP_eq] at he ⊢; (obtain ⟨hc, rfl, _⟩ := he; exact ⟨hc, hk⟩)) | (simp only [ShrP_eq] at he ⊢; (obtain ⟨hc, rfl, _⟩ := he; exact ⟨hc, hk⟩)))
  case dv op k x y =>
    simp only [evI] at he ⊢
    (repeat' split at he) <;> first | exact he.elim | (obtain ⟨rfl, _⟩ := he; exact hk) | (obtain ⟨hc, rfl, _⟩ := he; exact ⟨hc, hk⟩) | (simp only [ArP_eq] at he ⊢; (obtain ⟨rfl, _⟩ := he; exact hk)) | (simp only [QuoP_eq] at he ⊢; (obtain ⟨hc, rfl, _⟩ := he; exact ⟨hc, hk⟩)) | (simp only [RemP_eq] at he ⊢; (obtain ⟨hc, rfl, _⟩ := he; exact ⟨hc, hk⟩)) | (simp only [ShlP_eq] at he ⊢; (obtain ⟨hc, rfl, _⟩ := he; exact ⟨hc, hk⟩)) | (simp only [ShrP_eq] at he ⊢; (obtain ⟨hc, rfl, _⟩ := he; exact ⟨hc, hk⟩)) | (obtain ⟨rfl, _⟩ := he; subst_vars; simpa using hk) | (simp only [*, if_true]; first | (obtain ⟨rfl, _⟩ := he; exact hk) | (obtain ⟨hc, rfl, _⟩ := he; exact ⟨hc, hk⟩) | (simp only [ArP_eq] at he ⊢; (obtain ⟨rfl, _⟩ := he; exact hk)) | (simp only [QuoP_eq] at he ⊢; (obtain ⟨hc, rfl, _⟩ := he; exact ⟨hc, hk⟩)) | (simp only [RemP_eq] at he ⊢; (obtain ⟨hc, rfl, _⟩ := he; exact ⟨hc, hk⟩)) | (simp only [ShlP_eq] at he ⊢; (obtain ⟨hc, rfl, _⟩ := he; exact ⟨hc, hk⟩)) | (simp only [ShrP_eq] at he ⊢; (obtain ⟨hc, rfl, _⟩ := he; exact ⟨hc, hk⟩)))
  case bt op k x y =>
    simp only [evI] at he ⊢
    (repeat' split at he) <;> first | exact he.elim | (obtain ⟨rfl, _⟩ := he; exact hk) | (obtain ⟨hc, rfl, _⟩ := he; exact ⟨hc, hk⟩) | (simp only [ArP_eq] at he ⊢; (obtain ⟨rfl, _⟩ := he; exact hk)) | (simp only [QuoP_eq] at he ⊢; (obtain ⟨hc, rfl, _⟩ := he; exact ⟨hc, hk⟩)) | (simp only [RemP_eq] at he ⊢; (obtain ⟨hc, rfl, _⟩ := he; exact ⟨hc, hk⟩)) | (simp only [ShlP_eq] at he ⊢; (obtain ⟨hc, rfl, _⟩ := he; exact ⟨hc, hk⟩)) | (simp only [ShrP_eq] at he ⊢; (obtain ⟨hc, rfl, _⟩ := he; exact ⟨hc, hk⟩)) | (obtain ⟨rfl, _⟩ := he; subst_vars; simpa using hk) | (simp only [*, if_true]; first | (obtain ⟨rfl, _⟩ := he; exact hk) | (obtain ⟨hc, rfl, _⟩ := he; exact ⟨hc, hk⟩) | (simp only [ArP_eq] at he ⊢; (obtain ⟨rfl, _⟩ := he; exact hk)) | (simp only [QuoP_eq] at he ⊢; (obtain ⟨hc, rfl, _⟩ := he; exact ⟨hc, hk⟩)) | (simp only [RemP_eq] at he ⊢; (obtain ⟨hc, rfl, _⟩ := he; exact ⟨hc, hk⟩)) | (simp only [ShlP_eq] at he ⊢; (obtain ⟨hc, rfl, _⟩ := he; exact ⟨hc, hk⟩)) | (simp only [ShrP_eq] at he ⊢; (obtain ⟨hc, rfl, _⟩ := he; exact ⟨hc, hk⟩)))
  case sh op k x y =>
    simp only [evI] at he ⊢
    (repeat' split at he) <;> first | exact he.elim | (obtain ⟨rfl, _⟩ := he; exact hk) | (obtain ⟨hc, rfl, _⟩ := he; exact ⟨hc, hk⟩) | (simp only [ArP_eq] at he ⊢; (obtain ⟨rfl, _⟩ := he; exact hk)) | (simp only [QuoP_eq] at he ⊢; (obtain ⟨hc, rfl, _⟩ := he; exact ⟨hc, hk⟩)) | (simp only [RemP_eq] at he ⊢; (obtain ⟨hc, rfl, _⟩ := he; exact ⟨hc, hk⟩)) | (simp only [ShlP_eq] at he ⊢; (obtain ⟨hc, rfl, _⟩ := he; exact ⟨hc, hk⟩)) | (simp only [ShrP_eq] at he ⊢; (obtain ⟨hc, rfl, _⟩ := he; exact ⟨hc, hk⟩)) | (obtain ⟨rfl, _⟩ := he; subst_vars; simpa using hk) | (simp only [*, if_true]; first | (obtain ⟨rfl, _⟩ := he; exact hk) | (obtain ⟨hc, rfl, _⟩ := he; exact ⟨hc, hk⟩) | (simp only [ArP_eq] at he ⊢; (obtain ⟨rfl, _⟩ := he; exact hk)) | (simp only [QuoP_eq] at he ⊢; (obtain ⟨hc, rfl, _⟩ := he; exact ⟨hc, hk⟩)) | (simp only [RemP_eq] at he ⊢; (obtain ⟨hc, rfl, _⟩ := he; exact ⟨hc, hk⟩)) | (simp only [ShlP_eq] at he ⊢; (obtain ⟨hc, rfl, _⟩ := he; exact ⟨hc, hk⟩)) | (simp only [ShrP_eq] at he ⊢; (obtain ⟨hc, rfl, _⟩ := he; exact ⟨hc, hk⟩)))
  case cmp op k x y =>
    simp only [evI] at he ⊢
    (repeat' split at he) <;> first | exact he.elim | (obtain ⟨rfl, _⟩ := he; exact hk) | (obtain ⟨hc, rfl, _⟩ := he; exact ⟨hc, hk⟩) | (simp only [ArP_eq] at he ⊢; (obtain ⟨rfl, _⟩ := he; exact hk)) | (simp only [QuoP_eq] at he ⊢; (obtain ⟨hc, rfl, _⟩ := he; exact ⟨hc, hk⟩)) | (simp only [RemP_eq] at he ⊢; (obtain ⟨hc, rfl, _⟩ := he; exact ⟨hc, hk⟩)) | (simp only [ShlP_eq] at he ⊢; (obtain ⟨hc, rfl, _⟩ := he; exact ⟨hc, hk⟩)) | (simp only [ShrP_eq] at he ⊢; (obtain ⟨hc, rfl, _⟩ := he; exact ⟨hc, hk⟩)) | (obtain ⟨rfl, _⟩ := he; subst_vars; simpa using hk) | (simp only [*, if_true]; first | (obtain ⟨rfl, _⟩ := he; exact hk) | (obtain ⟨hc, rfl, _⟩ := he; exact ⟨hc, hk⟩) | (simp only [ArP_eq] at he ⊢; (obtain ⟨rfl, _⟩ := he; exact hk)) | (simp only [QuoP_eq] at he ⊢; (obtain ⟨hc, rfl, _⟩ := he; exact ⟨hc, hk⟩)) | (simp only [RemP_eq] at he ⊢; (obtain ⟨hc, rfl, _⟩ := he; exact ⟨hc, hk⟩)) | (simp only [ShlP_eq] at he ⊢; (obtain ⟨hc, rfl, _⟩ := he; exact ⟨hc, hk⟩)) | (simp only [ShrP_eq] at he ⊢; (obtain ⟨hc, rfl, _⟩ := he; exact ⟨hc, hk⟩)))
  case eq c neg x y =>
    simp only [evI] at he ⊢
    (repeat' split at he) <;> first | exact he.elim | (obtain ⟨rfl, _⟩ := he; exact hk) | (obtain ⟨hc, rfl, _⟩ := he; exact ⟨hc, hk⟩) | (simp only [ArP_eq] at he ⊢; (obtain ⟨rfl, _⟩ := he; exact hk)) | (simp only [QuoP_eq] at he ⊢; (obtain ⟨hc, rfl, _⟩ := he; exact ⟨hc, hk⟩)) | (simp only [RemP_eq] at he ⊢; (obtain ⟨hc, rfl, _⟩ := he; exact ⟨hc, hk⟩)) | (simp only [ShlP_eq] at he ⊢; (obtain ⟨hc, rfl, _⟩ := he; exact ⟨hc, hk⟩)) | (simp only [ShrP_eq] at he ⊢; (obtain ⟨hc, rfl, _⟩ := he; exact ⟨hc, hk⟩)) | (obtain ⟨rfl, _⟩ := he; subst_vars; simpa using hk) | (simp only [*, if_true]; first | (obtain ⟨rfl, _⟩ := he; exact hk) | (obtain ⟨hc, rfl, _⟩ := he; exact ⟨hc, hk⟩) | (simp only [ArP_eq] at he ⊢; (obtain ⟨rfl, _⟩ := he; exact hk)) | (simp only [QuoP_eq] at he ⊢; (obtain ⟨hc, rfl, _⟩ := he; exact ⟨hc, hk⟩)) | (simp only [RemP_eq] at he ⊢; (obtain ⟨hc, rfl, _⟩ := he; exact ⟨hc, hk⟩)) | (simp only [ShlP_eq] at he ⊢; (obtain ⟨hc, rfl, _⟩ := he; exact ⟨hc, hk⟩)) | (simp only [ShrP_eq] at he ⊢; (obtain ⟨hc, rfl, _⟩ := he; exact ⟨hc, hk⟩)))
  case eqa cs neg x y =>
    simp only [evI] at he ⊢
    (repeat' split at he) <;> first | exact he.elim | (obtain ⟨rfl, _⟩ := he; exact hk) | (obtain ⟨hc, rfl, _⟩ := he; exact ⟨hc, hk⟩) | (simp only [ArP_eq] at he ⊢; (obtain ⟨rfl, _⟩ := he; exact hk)) | (simp only [QuoP_eq] at he ⊢; (obtain ⟨hc, rfl, _⟩ := he; exact ⟨hc, hk⟩)) | (simp only [RemP_eq] at he ⊢; (obtain ⟨hc, rfl, _⟩ := he; exact ⟨hc, hk⟩)) | (simp only [ShlP_eq] at he ⊢; (obtain ⟨hc, rfl, _⟩ := he; exact ⟨hc, hk⟩)) | (simp only [ShrP_eq] at he ⊢; (obtain ⟨hc, rfl, _⟩ := he; exact ⟨hc, hk⟩)) | (obtain ⟨rfl, _⟩ := he; subst_vars; simpa using hk) | (simp only [*, if_true]; first | (obtain ⟨rfl, _⟩ := he; exact hk) | (obtain ⟨hc, rfl, _⟩ := he; exact ⟨hc, hk⟩) | (simp only [ArP_eq] at he ⊢; (obtain ⟨rfl, _⟩ := he; exact hk)) | (simp only [QuoP_eq] at he ⊢; (obtain ⟨hc, rfl, _⟩ := he; exact ⟨hc, hk⟩)) | (simp only [RemP_eq] at he ⊢; (obtain ⟨hc, rfl, _⟩ := he; exact ⟨hc, hk⟩)) | (simp only [ShlP_eq] at he ⊢; (obtain ⟨hc, rfl, _⟩ := he; exact ⟨hc, hk⟩)) | (simp only [ShrP_eq] at he ⊢; (obtain ⟨hc, rfl, _⟩ := he; exact ⟨hc, hk⟩)))
  case cat x y =>
    simp only [evI] at he ⊢
    (repeat' split at he) <;> first | exact he.elim | (obtain ⟨rfl, _⟩ := he; exact hk) | (obtain ⟨hc, rfl, _⟩ := he; exact ⟨hc, hk⟩) | (simp only [ArP_eq] at he ⊢; (obtain ⟨rfl, _⟩ := he; exact hk)) | (simp only [QuoP_eq] at he ⊢; (obtain ⟨hc, rfl, _⟩ := he; exact ⟨hc, hk⟩)) | (simp only [RemP_eq] at he ⊢; (obtain ⟨hc, rfl, _⟩ := he; exact ⟨hc, hk⟩)) | (simp only [ShlP_eq] at he ⊢; (obtain ⟨hc, rfl, _⟩ := he; exact ⟨hc, hk⟩)) | (simp only [ShrP_eq] at he ⊢; (obtain ⟨hc, rfl, _⟩ := he; exact ⟨hc, hk⟩)) | (obtain ⟨rfl, _⟩ := he; subst_vars; simpa using hk) | (simp only [*, if_true]; first | (obtain ⟨rfl, _⟩ := he; exact hk) | (obtain ⟨hc, rfl, _⟩ := he; exact ⟨hc, hk⟩) | (simp only [ArP_eq] at he ⊢; (obtain ⟨rfl, _⟩ := he; exact hk)) | (simp only [QuoP_eq] at he ⊢; (obtain ⟨hc, rfl, _⟩ := he; exact ⟨hc, hk⟩)) | (simp only [RemP_eq] at he ⊢; (obtain ⟨hc, rfl, _⟩ := he; exact ⟨hc, hk⟩)) | (simp only [ShlP_eq] at he ⊢; (obtain ⟨hc, rfl, _⟩ := he; exact ⟨hc, hk⟩)) | (simp only [ShrP_eq] at he ⊢; (obtain ⟨hc, rfl, _⟩ := he; exact ⟨hc, hk⟩)))
  case not x =>
    simp only [evI] at he ⊢
    (repeat' split at he) <;> first | exact he.elim | (obtain ⟨rfl, _⟩ := he; exact hk) | (obtain ⟨hc, rfl, _⟩ := he; exact ⟨hc, hk⟩) | (simp only [ArP_eq] at he ⊢; (obtain ⟨rfl, _⟩ := he; exact hk)) | (simp only [QuoP_eq] at he ⊢; (obtain ⟨hc, rfl, _⟩ := he; exact ⟨hc, hk⟩)) | (simp only [RemP_eq] at he ⊢; (obtain ⟨hc, rfl, _⟩ := he; exact ⟨hc, hk⟩)) | (simp only [ShlP_eq] at he ⊢; (obtain ⟨hc, rfl, _⟩ := he; exact ⟨hc, hk⟩)) | (simp only [ShrP_eq] at he ⊢; (obtain ⟨hc, rfl, _⟩ := he; exact ⟨hc, hk⟩)) | (obtain ⟨rfl, _⟩ := he; subst_vars; simpa using hk) | (simp only [*, if_true]; first | (obtain ⟨rfl, _⟩ := he; exact hk) | (obtain ⟨hc, rfl, _⟩ := he; exact ⟨hc, hk⟩) | (simp only [ArP_eq] at he ⊢; (obtain ⟨rfl, _⟩ := he; exact hk)) | (simp only [QuoP_eq] at he ⊢; (obtain ⟨hc, rfl, _⟩ := he; exact ⟨hc, hk⟩)) | (simp only [RemP_eq] at he ⊢; (obtain ⟨hc, rfl, _⟩ := he; exact ⟨hc, hk⟩)) | (simp only [ShlP_eq] at he ⊢; (obtain ⟨hc, rfl, _⟩ := he; exact ⟨hc, hk⟩)) | (simp only [ShrP_eq] at he ⊢; (obtain ⟨hc, rfl, _⟩ := he; exact ⟨hc, hk⟩)))
  case neg k x =>
    simp only [evI] at he ⊢
    (repeat' split at he) <;> first | exact he.elim | (obtain ⟨rfl, _⟩ := he; exact hk) | (obtain ⟨hc, rfl, _⟩ := he; exact ⟨hc, hk⟩) | (simp only [ArP_eq] at he ⊢; (obtain ⟨rfl, _⟩ := he; exact hk)) | (simp only [QuoP_eq] at he ⊢; (obtain ⟨hc, rfl, _⟩ := he; exact ⟨hc, hk⟩)) | (simp only [RemP_eq] at he ⊢; (obtain ⟨hc, rfl, _⟩ := he; exact ⟨hc, hk⟩)) | (simp only [ShlP_eq] at he ⊢; (obtain ⟨hc, rfl, _⟩ := he; exact ⟨hc, hk⟩)) | (simp only [ShrP_eq] at he ⊢; (obtain ⟨hc, rfl, _⟩ := he; exact ⟨hc, hk⟩)) | (obtain ⟨rfl, _⟩ := he; subst_vars; simpa using hk) | (simp only [*, if_true]; first | (obtain ⟨rfl, _⟩ := he; exact hk) | (obtain ⟨hc, rfl, _⟩ := he; exact ⟨hc, hk⟩) | (simp only [ArP_eq] at he ⊢; (obtain ⟨rfl, _⟩ := he; exact hk)) | (simp only [QuoP_eq] at he ⊢; (obtain ⟨hc, rfl, _⟩ := he; exact ⟨hc, hk⟩)) | (simp only [RemP_eq] at he ⊢; (obtain ⟨hc, rfl, _⟩ := he; exact ⟨hc, hk⟩)) | (simp only [ShlP_eq] at he ⊢; (obtain ⟨hc, rfl, _⟩ := he; exact ⟨hc, hk⟩)) | (simp only [ShrP_eq] at he ⊢; (obtain ⟨hc, rfl, _⟩ := he; exact ⟨hc, hk⟩)))
  case conv k x =>
    simp only [evI] at he ⊢
    (repeat' split at he) <;> first | exact he.elim | (obtain ⟨rfl, _⟩ := he; exact hk) | (obtain ⟨hc, rfl, _⟩ := he; exact ⟨hc, hk⟩) | (simp only [ArP_eq] at he ⊢; (obtain ⟨rfl, _⟩ := he; exact hk)) | (simp only [QuoP_eq] at he ⊢; (obtain ⟨hc, rfl, _⟩ := he; exact ⟨hc, hk⟩)) | (simp only [RemP_eq] at he ⊢; (obtain ⟨hc, rfl, _⟩ := he; exact ⟨hc, hk⟩)) | (simp only [ShlP_eq] at he ⊢; (obtain ⟨hc, rfl, _⟩ := he; exact ⟨hc, hk⟩)) | (simp only [ShrP_eq] at he ⊢; (obtain ⟨hc, rfl, _⟩ := he; exact ⟨hc, hk⟩)) | (obtain ⟨rfl, _⟩ := he; subst_vars; simpa using hk) | (simp only [*, if_true]; first | (obtain ⟨rfl, _⟩ := he; exact hk) | (obtain ⟨hc, rfl, _⟩ := he; exact ⟨hc, hk⟩) | (simp only [ArP_eq] at he ⊢; (obtain ⟨rfl, _⟩ := he; exact hk)) | (simp only [QuoP_eq] at he ⊢; (obtain ⟨hc, rfl, _⟩ := he; exact ⟨hc, hk⟩)) | (simp only [RemP_eq] at he ⊢; (obtain ⟨hc, rfl, _⟩ := he; exact ⟨hc, hk⟩)) | (simp only [ShlP_eq] at he ⊢; (obtain ⟨hc, rfl, _⟩ := he; exact ⟨hc, hk⟩)) | (simp only [ShrP_eq] at he ⊢; (obtain ⟨hc, rfl, _⟩ := he; exact ⟨hc, hk⟩)))
  case fa off x =>
    simp only [evI] at he ⊢
    (repeat' split at he) <;> first | exact he.elim | (obtain ⟨rfl, _⟩ := he; exact hk) | (obtain ⟨hc, rfl, _⟩ := he; exact ⟨hc, hk⟩) | (simp only [ArP_eq] at he ⊢; (obtain ⟨rfl, _⟩ := he; exact hk)) | (simp only [QuoP_eq] at he ⊢; (obtain ⟨hc, rfl, _⟩ := he; exact ⟨hc, hk⟩)) | (simp only [RemP_eq] at he ⊢; (obtain ⟨hc, rfl, _⟩ := he; exact ⟨hc, hk⟩)) | (simp only [ShlP_eq] at he ⊢; (obtain ⟨hc, rfl, _⟩ := he; exact ⟨hc, hk⟩)) | (simp only [ShrP_eq] at he ⊢; (obtain ⟨hc, rfl, _⟩ := he; exact ⟨hc, hk⟩)) | (obtain ⟨rfl, _⟩ := he; subst_vars; simpa using hk) | (simp only [*, if_true]; first | (obtain ⟨rfl, _⟩ := he; exact hk) | (obtain ⟨hc, rfl, _⟩ := he; exact ⟨hc, hk⟩) | (simp only [ArP_eq] at he ⊢; (obtain ⟨rfl, _⟩ := he; exact hk)) | (simp only [QuoP_eq] at he ⊢; (obtain ⟨hc, rfl, _⟩ := he; exact ⟨hc, hk⟩)) | (simp only [RemP_eq] at he ⊢; (obtain ⟨hc, rfl, _⟩ := he; exact ⟨hc, hk⟩)) | (simp only [ShlP_eq] at he ⊢; (obtain ⟨hc, rfl, _⟩ := he; exact ⟨hc, hk⟩)) | (simp only [ShrP_eq] at he ⊢; (obtain ⟨hc, rfl, _⟩ := he; exact ⟨hc, hk⟩))) | (obtain ⟨v, ⟨rfl, _, _⟩, h2⟩ := pick_faX he; first | exact h2 _ hk | (split <;> first | (exfalso; simp_all; done) | exact h2 _ hk))
  case ixs wd x i =>
    simp only [evI] at he ⊢
    (repeat' split at he) <;> first | exact he.elim | (obtain ⟨rfl, _⟩ := he; exact hk) | (obtain ⟨hc, rfl, _⟩ := he; exact ⟨hc, hk⟩) | (simp only [ArP_eq] at he ⊢; (obtain ⟨rfl, _⟩ := he; exact hk)) | (simp only [QuoP_eq] at he ⊢; (obtain ⟨hc, rfl, _⟩ := he; exact ⟨hc, hk⟩)) | (simp only [RemP_eq] at he ⊢; (obtain ⟨hc, rfl, _⟩ := he; exact ⟨hc, hk⟩)) | (simp only [ShlP_eq] at he ⊢; (obtain ⟨hc, rfl, _⟩ := he; exact ⟨hc, hk⟩)) | (simp only [ShrP_eq] at he ⊢; (obtain ⟨hc, rfl, _⟩ := he; exact ⟨hc, hk⟩)) | (obtain ⟨rfl, _⟩ := he; subst_vars; simpa using hk) | (simp only [*, if_true]; first | (obtain ⟨rfl, _⟩ := he; exact hk) | (obtain ⟨hc, rfl, _⟩ := he; exact ⟨hc, hk⟩) | (simp only [ArP_eq] at he ⊢; (obtain ⟨rfl, _⟩ := he; exact hk)) | (simp only [QuoP_eq] at he ⊢; (obtain ⟨hc, rfl, _⟩ := he; exact ⟨hc, hk⟩)) | (simp only [RemP_eq] at he ⊢; (obtain ⟨hc, rfl, _⟩ := he; exact ⟨hc, hk⟩)) | (simp only [ShlP_eq] at he ⊢; (obtain ⟨hc, rfl, _⟩ := he; exact ⟨hc, hk⟩)) | (simp only [ShrP_eq] at he ⊢; (obtain ⟨hc, rfl, _⟩ := he; exact ⟨hc, hk⟩))) | (obtain ⟨v, ⟨rfl, _, _⟩, h2⟩ := pick_ixsX he; first | exact h2 _ hk | (split <;> first | (exfalso; simp_all; done) | exact h2 _ hk))
  case ixa sz m x i =>
    simp only [evI] at he ⊢
    (repeat' split at he) <;> first | exact he.elim | (obtain ⟨rfl, _⟩ := he; exact hk) | (obtain ⟨hc, rfl, _⟩ := he; exact ⟨hc, hk⟩) | (simp only [ArP_eq] at he ⊢; (obtain ⟨rfl, _⟩ := he; exact hk)) | (simp only [QuoP_eq] at he ⊢; (obtain ⟨hc, rfl, _⟩ := he; exact ⟨hc, hk⟩)) | (simp only [RemP_eq] at he ⊢; (obtain ⟨hc, rfl, _⟩ := he; exact ⟨hc, hk⟩)) | (simp only [ShlP_eq] at he ⊢; (obtain ⟨hc, rfl, _⟩ := he; exact ⟨hc, hk⟩)) | (simp only [ShrP_eq] at he ⊢; (obtain ⟨hc, rfl, _⟩ := he; exact ⟨hc, hk⟩)) | (obtain ⟨rfl, _⟩ := he; subst_vars; simpa using hk) | (simp only [*, if_true]; first | (obtain ⟨rfl, _⟩ := he; exact hk) | (obtain ⟨hc, rfl, _⟩ := he; exact ⟨hc, hk⟩) | (simp only [ArP_eq] at he ⊢; (obtain ⟨rfl, _⟩ := he; exact hk)) | (simp only [QuoP_eq] at he ⊢; (obtain ⟨hc, rfl, _⟩ := he; exact ⟨hc, hk⟩)) | (simp only [RemP_eq] at he ⊢; (obtain ⟨hc, rfl, _⟩ := he; exact ⟨hc, hk⟩)) | (simp only [ShlP_eq] at he ⊢; (obtain ⟨hc, rfl, _⟩ := he; exact ⟨hc, hk⟩)) | (simp only [ShrP_eq] at he ⊢; (obtain ⟨hc, rfl, _⟩ := he; exact ⟨hc, hk⟩))) | (obtain ⟨v, ⟨rfl, _, _⟩, h2⟩ := pick_ixaX he; first | exact h2 _ hk | (split <;> first | (exfalso; simp_all; done) | exact h2 _ hk))
  case ixt x i =>
    simp only [evI] at he ⊢
    split at he
    · obtain ⟨hc, rfl, _⟩ := he
      exact ⟨hc, hk⟩
    · exact he.elim
  case fld off x =>
    simp only [evI] at he ⊢
    (repeat' split at he) <;> first | exact he.elim | (obtain ⟨rfl, _⟩ := he; exact hk) | (obtain ⟨hc, rfl, _⟩ := he; exact ⟨hc, hk⟩) | (simp only [ArP_eq] at he ⊢; (obtain ⟨rfl, _⟩ := he; exact hk)) | (simp only [QuoP_eq] at he ⊢; (obtain ⟨hc, rfl, _⟩ := he; exact ⟨hc, hk⟩)) | (simp only [RemP_eq] at he ⊢; (obtain ⟨hc, rfl, _⟩ := he; exact ⟨hc, hk⟩)) | (simp only [ShlP_eq] at he ⊢; (obtain ⟨hc, rfl, _⟩ := he; exact ⟨hc, hk⟩)) | (simp only [ShrP_eq] at he ⊢; (obtain ⟨hc, rfl, _⟩ := he; exact ⟨hc, hk⟩)) | (obtain ⟨rfl, _⟩ := he; subst_vars; simpa using hk) | (simp only [*, if_true]; first | (obtain ⟨rfl, _⟩ := he; exact hk) | (obtain ⟨hc, rfl, _⟩ := he; exact ⟨hc, hk⟩) | (simp only [ArP_eq] at he ⊢; (obtain ⟨rfl, _⟩ := he; exact hk)) | (simp only [QuoP_eq] at he ⊢; (obtain ⟨hc, rfl, _⟩ := he; exact ⟨hc, hk⟩)) | (simp only [RemP_eq] at he ⊢; (obtain ⟨hc, rfl, _⟩ := he; exact ⟨hc, hk⟩)) | (simp only [ShlP_eq] at he ⊢; (obtain ⟨hc, rfl, _⟩ := he; exact ⟨hc, hk⟩)) | (simp only [ShrP_eq] at he ⊢; (obtain ⟨hc, rfl, _⟩ := he; exact ⟨hc, hk⟩)))
  case flda off m x =>
    simp only [evI] at he ⊢
    (repeat' split at he) <;> first | exact he.elim | (obtain ⟨rfl, _⟩ := he; exact hk) | (obtain ⟨hc, rfl, _⟩ := he; exact ⟨hc, hk⟩) | (simp only [ArP_eq] at he ⊢; (obtain ⟨rfl, _⟩ := he; exact hk)) | (simp only [QuoP_eq] at he ⊢; (obtain ⟨hc, rfl, _⟩ := he; exact ⟨hc, hk⟩)) | (simp only [RemP_eq] at he ⊢; (obtain ⟨hc, rfl, _⟩ := he; exact ⟨hc, hk⟩)) | (simp only [ShlP_eq] at he ⊢; (obtain ⟨hc, rfl, _⟩ := he; exact ⟨hc, hk⟩)) | (simp only [ShrP_eq] at he ⊢; (obtain ⟨hc, rfl, _⟩ := he; exact ⟨hc, hk⟩)) | (obtain ⟨rfl, _⟩ := he; subst_vars; simpa using hk) | (simp only [*, if_true]; first | (obtain ⟨rfl, _⟩ := he; exact hk) | (obtain ⟨hc, rfl, _⟩ := he; exact ⟨hc, hk⟩) | (simp only [ArP_eq] at he ⊢; (obtain ⟨rfl, _⟩ := he; exact hk)) | (simp only [QuoP_eq] at he ⊢; (obtain ⟨hc, rfl, _⟩ := he; exact ⟨hc, hk⟩)) | (simp only [RemP_eq] at he ⊢; (obtain ⟨hc, rfl, _⟩ := he; exact ⟨hc, hk⟩)) | (simp only [ShlP_eq] at he ⊢; (obtain ⟨hc, rfl, _⟩ := he; exact ⟨hc, hk⟩)) | (simp only [ShrP_eq] at he ⊢; (obtain ⟨hc, rfl, _⟩ := he; exact ⟨hc, hk⟩)))
  case ext j x =>
    simp only [evI] at he ⊢
    (repeat' split at he) <;> first | exact he.elim | (obtain ⟨rfl, _⟩ := he; exact hk) | (obtain ⟨hc, rfl, _⟩ := he; exact ⟨hc, hk⟩) | (simp only [ArP_eq] at he ⊢; (obtain ⟨rfl, _⟩ := he; exact hk)) | (simp only [QuoP_eq] at he ⊢; (obtain ⟨hc, rfl, _⟩ := he; exact ⟨hc, hk⟩)) | (simp only [RemP_eq] at he ⊢; (obtain ⟨hc, rfl, _⟩ := he; exact ⟨hc, hk⟩)) | (simp only [ShlP_eq] at he ⊢; (obtain ⟨hc, rfl, _⟩ := he; exact ⟨hc, hk⟩)) | (simp only [ShrP_eq] at he ⊢; (obtain ⟨hc, rfl, _⟩ := he; exact ⟨hc, hk⟩)) | (obtain ⟨rfl, _⟩ := he; subst_vars; simpa using hk) | (simp only [*, if_true]; first | (obtain ⟨rfl, _⟩ := he; exact hk) | (obtain ⟨hc, rfl, _⟩ := he; exact ⟨hc, hk⟩) | (simp only [ArP_eq] at he ⊢; (obtain ⟨rfl, _⟩ := he; exact hk)) | (simp only [QuoP_eq] at he ⊢; (obtain ⟨hc, rfl, _⟩ := he; exact ⟨hc, hk⟩)) | (simp only [RemP_eq] at he ⊢; (obtain ⟨hc, rfl, _⟩ := he; exact ⟨hc, hk⟩)) | (simp only [ShlP_eq] at he ⊢; (obtain ⟨hc, rfl, _⟩ := he; exact ⟨hc, hk⟩)) | (simp only [ShrP_eq] at he ⊢; (obtain ⟨hc, rfl, _⟩ := he; exact ⟨hc, hk⟩)))
  case bld z parts =>
    simp only [evI, lvsK_eq] at he ⊢
    (repeat' split at he) <;> first | exact he.elim | (obtain ⟨rfl, _⟩ := he; exact hk) | (obtain ⟨hc, rfl, _⟩ := he; exact ⟨hc, hk⟩) | (simp only [ArP_eq] at he ⊢; (obtain ⟨rfl, _⟩ := he; exact hk)) | (simp only [QuoP_eq] at he ⊢; (obtain ⟨hc, rfl, _⟩ := he; exact ⟨hc, hk⟩)) | (simp only [RemP_eq] at he ⊢; (obtain ⟨hc, rfl, _⟩ := he; exact ⟨hc, hk⟩)) | (simp only [ShlP_eq] at he ⊢; (obtain ⟨hc, rfl, _⟩ := he; exact ⟨hc, hk⟩)) | (simp only [ShrP_eq] at he ⊢; (obtain ⟨hc, rfl, _⟩ := he; exact ⟨hc, hk⟩)) | (obtain ⟨rfl, _⟩ := he; subst_vars; simpa using hk) | (simp only [*, if_true]; first | (obtain ⟨rfl, _⟩ := he; exact hk) | (obtain ⟨hc, rfl, _⟩ := he; exact ⟨hc, hk⟩) | (simp only [ArP_eq] at he ⊢; (obtain ⟨rfl, _⟩ := he; exact hk)) | (simp only [QuoP_eq] at he ⊢; (obtain ⟨hc, rfl, _⟩ := he; exact ⟨hc, hk⟩)) | (simp only [RemP_eq] at he ⊢; (obtain ⟨hc, rfl, _⟩ := he; exact ⟨hc, hk⟩)) | (simp only [ShlP_eq] at he ⊢; (obtain ⟨hc, rfl, _⟩ := he; exact ⟨hc, hk⟩)) | (simp only [ShrP_eq] at he ⊢; (obtain ⟨hc, rfl, _⟩ := he; exact ⟨hc, hk⟩)))
  case bsl wd m z parts =>
    simp [freeI] at hp
  case mks wd bytes z l c =>
    simp [freeI] at hp
  case len x =>
    simp only [evI] at he ⊢
    (repeat' split at he) <;> first | exact he.elim | (obtain ⟨rfl, _⟩ := he; exact hk) | (obtain ⟨hc, rfl, _⟩ := he; exact ⟨hc, hk⟩) | (simp only [ArP_eq] at he ⊢; (obtain ⟨rfl, _⟩ := he; exact hk)) | (simp only [QuoP_eq] at he ⊢; (obtain ⟨hc, rfl, _⟩ := he; exact ⟨hc, hk⟩)) | (simp only [RemP_eq] at he ⊢; (obtain ⟨hc, rfl, _⟩ := he; exact ⟨hc, hk⟩)) | (simp only [ShlP_eq] at he ⊢; (obtain ⟨hc, rfl, _⟩ := he; exact ⟨hc, hk⟩)) | (simp only [ShrP_eq] at he ⊢; (obtain ⟨hc, rfl, _⟩ := he; exact ⟨hc, hk⟩)) | (obtain ⟨rfl, _⟩ := he; subst_vars; simpa using hk) | (simp only [*, if_true]; first | (obtain ⟨rfl, _⟩ := he; exact hk) | (obtain ⟨hc, rfl, _⟩ := he; exact ⟨hc, hk⟩) | (simp only [ArP_eq] at he ⊢; (obtain ⟨rfl, _⟩ := he; exact hk)) | (simp only [QuoP_eq] at he ⊢; (obtain ⟨hc, rfl, _⟩ := he; exact ⟨hc, hk⟩)) | (simp only [RemP_eq] at he ⊢; (obtain ⟨hc, rfl, _⟩ := he; exact ⟨hc, hk⟩)) | (simp only [ShlP_eq] at he ⊢; (obtain ⟨hc, rfl, _⟩ := he; exact ⟨hc, hk⟩)) | (simp only [ShrP_eq] at he ⊢; (obtain ⟨hc, rfl, _⟩ := he; exact ⟨hc, hk⟩))) | (obtain ⟨v, ⟨rfl, _, _⟩, h2⟩ := pick_lenX he; first | exact h2 _ hk | (split <;> first | (exfalso; simp_all; done) | exact h2 _ hk))
  case lens x =>
    simp only [evI] at he ⊢
    (repeat' split at he) <;> first | exact he.elim | (obtain ⟨rfl, _⟩ := he; exact hk) | (obtain ⟨hc, rfl, _⟩ := he; exact ⟨hc, hk⟩) | (simp only [ArP_eq] at he ⊢; (obtain ⟨rfl, _⟩ := he; exact hk)) | (simp only [QuoP_eq] at he ⊢; (obtain ⟨hc, rfl, _⟩ := he; exact ⟨hc, hk⟩)) | (simp only [RemP_eq] at he ⊢; (obtain ⟨hc, rfl, _⟩ := he; exact ⟨hc, hk⟩)) | (simp only [ShlP_eq] at he ⊢; (obtain ⟨hc, rfl, _⟩ := he; exact ⟨hc, hk⟩)) | (simp only [ShrP_eq] at he ⊢; (obtain ⟨hc, rfl, _⟩ := he; exact ⟨hc, hk⟩)) | (obtain ⟨rfl, _⟩ := he; subst_vars; simpa using hk) | (simp only [*, if_true]; first | (obtain ⟨rfl, _⟩ := he; exact hk) | (obtain ⟨hc, rfl, _⟩ := he; exact ⟨hc, hk⟩) | (simp only [ArP_eq] at he ⊢; (obtain ⟨rfl, _⟩ := he; exact hk)) | (simp only [QuoP_eq] at he ⊢; (obtain ⟨hc, rfl, _⟩ := he; exact ⟨hc, hk⟩)) | (simp only [RemP_eq] at he ⊢; (obtain ⟨hc, rfl, _⟩ := he; exact ⟨hc, hk⟩)) | (simp only [ShlP_eq] at he ⊢; (obtain ⟨hc, rfl, _⟩ := he; exact ⟨hc, hk⟩)) | (simp only [ShrP_eq] at he ⊢; (obtain ⟨hc, rfl, _⟩ := he; exact ⟨hc, hk⟩)))
  case mx k x y =>
    simp only [evI] at he ⊢
    (repeat' split at he) <;> first | exact he.elim | (obtain ⟨rfl, _⟩ := he; exact hk) | (obtain ⟨hc, rfl, _⟩ := he; exact ⟨hc, hk⟩) | (simp only [ArP_eq] at he ⊢; (obtain ⟨rfl, _⟩ := he; exact hk)) | (simp only [QuoP_eq] at he ⊢; (obtain ⟨hc, rfl, _⟩ := he; exact ⟨hc, hk⟩)) | (simp only [RemP_eq] at he ⊢; (obtain ⟨hc, rfl, _⟩ := he; exact ⟨hc, hk⟩)) | (simp only [ShlP_eq] at he ⊢; (obtain ⟨hc, rfl, _⟩ := he; exact ⟨hc, hk⟩)) | (simp only [ShrP_eq] at he ⊢; (obtain ⟨hc, rfl, _⟩ := he; exact ⟨hc, hk⟩)) | (obtain ⟨rfl, _⟩ := he; subst_vars; simpa using hk) | (simp only [*, if_true]; first | (obtain ⟨rfl, _⟩ := he; exact hk) | (obtain ⟨hc, rfl, _⟩ := he; exact ⟨hc, hk⟩) | (simp only [ArP_eq] at he ⊢; (obtain ⟨rfl, _⟩ := he; exact hk)) | (simp only [QuoP_eq] at he ⊢; (obtain ⟨hc, rfl, _⟩ := he; exact ⟨hc, hk⟩)) | (simp only [RemP_eq] at he ⊢; (obtain ⟨hc, rfl, _⟩ := he; exact ⟨hc, hk⟩)) | (simp only [ShlP_eq] at he ⊢; (obtain ⟨hc, rfl, _⟩ := he; exact ⟨hc, hk⟩)) | (simp only [ShrP_eq] at he ⊢; (obtain ⟨hc, rfl, _⟩ := he; exact ⟨hc, hk⟩)))
  case mn k x y =>
    simp only [evI] at he ⊢
    (repeat' split at he) <;> first | exact he.elim | (obtain ⟨rfl, _⟩ := he; exact hk) | (obtain ⟨hc, rfl, _⟩ := he; exact ⟨hc, hk⟩) | (simp only [ArP_eq] at he ⊢; (obtain ⟨rfl, _⟩ := he; exact hk)) | (simp only [QuoP_eq] at he ⊢; (obtain ⟨hc, rfl, _⟩ := he; exact ⟨hc, hk⟩)) | (simp only [RemP_eq] at he ⊢; (obtain ⟨hc, rfl, _⟩ := he; exact ⟨hc, hk⟩)) | (simp only [ShlP_eq] at he ⊢; (obtain ⟨hc, rfl, _⟩ := he; exact ⟨hc, hk⟩)) | (simp only [ShrP_eq] at he ⊢; (obtain ⟨hc, rfl, _⟩ := he; exact ⟨hc, hk⟩)) | (obtain ⟨rfl, _⟩ := he; subst_vars; simpa using hk) | (simp only [*, if_true]; first | (obtain ⟨rfl, _⟩ := he; exact hk) | (obtain ⟨hc, rfl, _⟩ := he; exact ⟨hc, hk⟩) | (simp only [ArP_eq] at he ⊢; (obtain ⟨rfl, _⟩ := he; exact hk)) | (simp only [QuoP_eq] at he ⊢; (obtain ⟨hc, rfl, _⟩ := he; exact ⟨hc, hk⟩)) | (simp only [RemP_eq] at he ⊢; (obtain ⟨hc, rfl, _⟩ := he; exact ⟨hc, hk⟩)) | (simp only [ShlP_eq] at he ⊢; (obtain ⟨hc, rfl, _⟩ := he; exact ⟨hc, hk⟩)) | (simp only [ShrP_eq] at he ⊢; (obtain ⟨hc, rfl, _⟩ := he; exact ⟨hc, hk⟩)))
  case slc wd x lo up =>
    cases lo <;> cases up <;> simp only [evI] at he ⊢ <;> (repeat' split at he) <;> first | exact he.elim | (obtain ⟨rfl, _⟩ := he; exact hk) | (obtain ⟨hc, rfl, _⟩ := he; exact ⟨hc, hk⟩) | (simp only [ArP_eq] at he ⊢; (obtain ⟨rfl, _⟩ := he; exact hk)) | (simp only [QuoP_eq] at he ⊢; (obtain ⟨hc, rfl, _⟩ := he; exact ⟨hc, hk⟩)) | (simp only [RemP_eq] at he ⊢; (obtain ⟨hc, rfl, _⟩ := he; exact ⟨hc, hk⟩)) | (simp only [ShlP_eq] at he ⊢; (obtain ⟨hc, rfl, _⟩ := he; exact ⟨hc, hk⟩)) | (simp only [ShrP_eq] at he ⊢; (obtain ⟨hc, rfl, _⟩ := he; exact ⟨hc, hk⟩)) | (obtain ⟨rfl, _⟩ := he; subst_vars; simpa using hk) | (simp only [*, if_true]; first | (obtain ⟨rfl, _⟩ := he; exact hk) | (obtain ⟨hc, rfl, _⟩ := he; exact ⟨hc, hk⟩) | (simp only [ArP_eq] at he ⊢; (obtain ⟨rfl, _⟩ := he; exact hk)) | (simp only [QuoP_eq] at he ⊢; (obtain ⟨hc, rfl, _⟩ := he; exact ⟨hc, hk⟩)) | (simp only [RemP_eq] at he ⊢; (obtain ⟨hc, rfl, _⟩ := he; exact ⟨hc, hk⟩)) | (simp only [ShlP_eq] at he ⊢; (obtain ⟨hc, rfl, _⟩ := he; exact ⟨hc, hk⟩)) | (simp only [ShrP_eq] at he ⊢; (obtain ⟨hc, rfl, _⟩ := he; exact ⟨hc, hk⟩))) | (obtain ⟨v, ⟨rfl, _, _⟩, h2⟩ := pick_slcX he; first | exact h2 _ hk | (split <;> first | (exfalso; simp_all; done) | exact h2 _ hk))
  case slt x lo up =>
    cases lo <;> cases up <;> simp only [evI] at he ⊢ <;> (repeat' split at he) <;> first | exact he.elim | (obtain ⟨rfl, _⟩ := he; exact hk) | (obtain ⟨hc, rfl, _⟩ := he; exact ⟨hc, hk⟩) | (simp only [ArP_eq] at he ⊢; (obtain ⟨rfl, _⟩ := he; exact hk)) | (simp only [QuoP_eq] at he ⊢; (obtain ⟨hc, rfl, _⟩ := he; exact ⟨hc, hk⟩)) | (simp only [RemP_eq] at he ⊢; (obtain ⟨hc, rfl, _⟩ := he; exact ⟨hc, hk⟩)) | (simp only [ShlP_eq] at he ⊢; (obtain ⟨hc, rfl, _⟩ := he; exact ⟨hc, hk⟩)) | (simp only [ShrP_eq] at he ⊢; (obtain ⟨hc, rfl, _⟩ := he; exact ⟨hc, hk⟩)) | (obtain ⟨rfl, _⟩ := he; subst_vars; simpa using hk) | (simp only [*, if_true]; first | (obtain ⟨rfl, _⟩ := he; exact hk) | (obtain ⟨hc, rfl, _⟩ := he; exact ⟨hc, hk⟩) | (simp only [ArP_eq] at he ⊢; (obtain ⟨rfl, _⟩ := he; exact hk)) | (simp only [QuoP_eq] at he ⊢; (obtain ⟨hc, rfl, _⟩ := he; exact ⟨hc, hk⟩)) | (simp only [RemP_eq] at he ⊢; (obtain ⟨hc, rfl, _⟩ := he; exact ⟨hc, hk⟩)) | (simp only [ShlP_eq] at he ⊢; (obtain ⟨hc, rfl, _⟩ := he; exact ⟨hc, hk⟩)) | (simp only [ShrP_eq] at he ⊢; (obtain ⟨hc, rfl, _⟩ := he; exact ⟨hc, hk⟩)))
  case app wd bytes s x =>
    simp [freeI] at hp
  case call f args =>
    simp [freeI] at hp
  case callv fv args =>
    simp [freeI] at hp
  case inv recv name args =>
    simp [freeI] at hp
  case mki t x =>
    simp only [evI] at he ⊢
    (repeat' split at he) <;> first | exact he.elim | (obtain ⟨rfl, _⟩ := he; exact hk) | (obtain ⟨hc, rfl, _⟩ := he; exact ⟨hc, hk⟩) | (simp only [ArP_eq] at he ⊢; (obtain ⟨rfl, _⟩ := he; exact hk)) | (simp only [QuoP_eq] at he ⊢; (obtain ⟨hc, rfl, _⟩ := he; exact ⟨hc, hk⟩)) | (simp only [RemP_eq] at he ⊢; (obtain ⟨hc, rfl, _⟩ := he; exact ⟨hc, hk⟩)) | (simp only [ShlP_eq] at he ⊢; (obtain ⟨hc, rfl, _⟩ := he; exact ⟨hc, hk⟩)) | (simp only [ShrP_eq] at he ⊢; (obtain ⟨hc, rfl, _⟩ := he; exact ⟨hc, hk⟩)) | (obtain ⟨rfl, _⟩ := he; subst_vars; simpa using hk) | (simp only [*, if_true]; first | (obtain ⟨rfl, _⟩ := he; exact hk) | (obtain ⟨hc, rfl, _⟩ := he; exact ⟨hc, hk⟩) | (simp only [ArP_eq] at he ⊢; (obtain ⟨rfl, _⟩ := he; exact hk)) | (simp only [QuoP_eq] at he ⊢; (obtain ⟨hc, rfl, _⟩ := he; exact ⟨hc, hk⟩)) | (simp only [RemP_eq] at he ⊢; (obtain ⟨hc, rfl, _⟩ := he; exact ⟨hc, hk⟩)) | (simp only [ShlP_eq] at he ⊢; (obtain ⟨hc, rfl, _⟩ := he; exact ⟨hc, hk⟩)) | (simp only [ShrP_eq] at he ⊢; (obtain ⟨hc, rfl, _⟩ := he; exact ⟨hc, hk⟩)))
  case mkf f caps =>
    simp only [evI] at he ⊢
    (repeat' split at he) <;> first | exact he.elim | (obtain ⟨rfl, _⟩ := he; exact hk) | (obtain ⟨hc, rfl, _⟩ := he; exact ⟨hc, hk⟩) | (simp only [ArP_eq] at he ⊢; (obtain ⟨rfl, _⟩ := he; exact hk)) | (simp only [QuoP_eq] at he ⊢; (obtain ⟨hc, rfl, _⟩ := he; exact ⟨hc, hk⟩)) | (simp only [RemP_eq] at he ⊢; (obtain ⟨hc, rfl, _⟩ := he; exact ⟨hc, hk⟩)) | (simp only [ShlP_eq] at he ⊢; (obtain ⟨hc, rfl, _⟩ := he; exact ⟨hc, hk⟩)) | (simp only [ShrP_eq] at he ⊢; (obtain ⟨hc, rfl, _⟩ := he; exact ⟨hc, hk⟩)) | (obtain ⟨rfl, _⟩ := he; subst_vars; simpa using hk) | (simp only [*, if_true]; first | (obtain ⟨rfl, _⟩ := he; exact hk) | (obtain ⟨hc, rfl, _⟩ := he; exact ⟨hc, hk⟩) | (simp only [ArP_eq] at he ⊢; (obtain ⟨rfl, _⟩ := he; exact hk)) | (simp only [QuoP_eq] at he ⊢; (obtain ⟨hc, rfl, _⟩ := he; exact ⟨hc, hk⟩)) | (simp only [RemP_eq] at he ⊢; (obtain ⟨hc, rfl, _⟩ := he; exact ⟨hc, hk⟩)) | (simp only [ShlP_eq] at he ⊢; (obtain ⟨hc, rfl, _⟩ := he; exact ⟨hc, hk⟩)) | (simp only [ShrP_eq] at he ⊢; (obtain ⟨hc, rfl, _⟩ := he; exact ⟨hc, hk⟩)))
  case mp q qe op =>
    simp [freeI] at hp
  case esc op =>
    simp [freeI] at hp
end Go.Sx
