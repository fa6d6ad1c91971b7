/- The symbolic walk, part S: regions that draw their order: the walk in the order of the text, with what it asks besides, serves every order. -/
import Derived.Test.YtfkhaicghoiijabSxR
import Derived.Orders
set_option linter.unusedSimpArgs false
set_option linter.unusedVariables false
set_option linter.unusedSectionVars false
namespace Go.Sx
open Go

/-- One operation of a walk: what was known ahead of it, whether it was carried out, and what it came to. -/
structure Stp where
  o : IOp
  r : Regs
  h : Heap
  n : Nat
  on : Bool
  x : SV

section
variable (CP : FuncId → List AV → Heap → Nat → (SV → Heap → Nat → Prop) → Prop)
variable (IP : AV → String → List AV → Heap → Nat → (SV → Heap → Nat → Prop) → Prop)
variable (EP : Op → Regs → Heap → Nat → (SV → Heap → Nat → Prop) → Prop)
def stepD (o : IOp) (next : Regs → Heap → Nat → List Stp → (List Stp → Regs → Heap → Nat → Prop) → Prop) (r : Regs) (h : Heap) (n : Nat) (T : List Stp) (K : List Stp → Regs → Heap → Nat → Prop) : Prop := match o.guard with
    | none => evI CP IP EP o.i r h n fun x u n' => catH u h fun h' => next (putR o.dst x r) h' n' (⟨o, r, h, n, true, x⟩ :: T) K
    | some (g, want) => match rget r g with
      | some (.o (.l (.v (.bool b)))) => @Bool.rec (fun _ => Prop)
        (match want with
          | true => next (putR o.dst undefS ((g, sBool false) :: r)) h n (⟨o, (g, sBool false) :: r, h, n, false, undefS⟩ :: T) K
          | false => evI CP IP EP o.i ((g, sBool false) :: r) h n fun x u n' => catH u h fun h' => next (putR o.dst x ((g, sBool false) :: r)) h' n' (⟨o, (g, sBool false) :: r, h, n, true, x⟩ :: T) K)
        (match want with
          | false => next (putR o.dst undefS ((g, sBool true) :: r)) h n (⟨o, (g, sBool true) :: r, h, n, false, undefS⟩ :: T) K
          | true => evI CP IP EP o.i ((g, sBool true) :: r) h n fun x u n' => catH u h fun h' => next (putR o.dst x ((g, sBool true) :: r)) h' n' (⟨o, (g, sBool true) :: r, h, n, true, x⟩ :: T) K) b
      | some _ => next (putR o.dst undefS r) h n (⟨o, r, h, n, false, undefS⟩ :: T) K
      | none => False
def nilD (r : Regs) (h : Heap) (n : Nat) (T : List Stp) (K : List Stp → Regs → Heap → Nat → Prop) : Prop := K T r h n
noncomputable def evD (l : List IOp) : Regs → Heap → Nat → List Stp → (List Stp → Regs → Heap → Nat → Prop) → Prop :=
  @List.rec IOp (fun _ => Regs → Heap → Nat → List Stp → (List Stp → Regs → Heap → Nat → Prop) → Prop) nilD (fun o _ next => stepD CP IP EP o next) l
theorem evD_cons (o : IOp) (rest : List IOp) (r : Regs) (h : Heap) (n : Nat) (T : List Stp) (K : List Stp → Regs → Heap → Nat → Prop) : evD CP IP EP (o :: rest) r h n T K = stepD CP IP EP o (evD CP IP EP rest) r h n T K := rfl
/-- What is asked besides: an operation that looks at the memory comes to the same at other points of the walk. -/
def obl : List (Nat × Nat) → List Stp → Heap → Nat → Prop → Prop
  | [], _, _, _, K => K
  | (i, m) :: l, T, h, n, K => (match nth T i with
      | some s => match s.on with
        | true => match nth T m with
          | some q => evI CP IP EP s.o.i s.r q.h q.n fun x u n' => x = s.x ∧ u = [] ∧ n' = q.n
          | none => evI CP IP EP s.o.i s.r h n fun x u n' => x = s.x ∧ u = [] ∧ n' = n
        | false => True
      | none => False) ∧ obl l T h n K
end

/-- What the guard says: carried out or not; none: not known. -/
def onR (g : Option (Nat × Bool)) (r : Regs) : Option Bool :=
  match g with
  | none => some true
  | some (g, want) => match rget r g with
    | some (.o (.l (.v (.bool b)))) => some (b == want)
    | some _ => some false
    | none => none
def looksO (o : IOp) : List Nat := looksI o.i ++ (match o.guard with | some (g, _) => [g] | none => [])
/-- One operation comes to this. -/
def StepOK (G : Ctx) (o : IOp) (r : Regs) (h : Heap) (n : Nat) (on : Bool) (x : SV) (u : Heap) (n' : Nat) : Prop :=
  onR o.guard r = some on ∧ match on with
    | true => evI (CallP G) (InvP G) (EscP G) o.i r h n fun x' u' m => x' = x ∧ u' = u ∧ m = n'
    | false => x = undefS ∧ u = [] ∧ n' = n
/-- A walk. -/
inductive Tr (G : Ctx) : List IOp → Regs → Heap → Nat → List Stp → Regs → Heap → Nat → Prop
  | nil {r h n} : Tr G [] r h n [] r h n
  | cons {o rest r0 r h n on x u n' T r' h' n''} : (∀ t, rget r t = rget r0 t) → StepOK G o r h n on x u n' → Tr G rest (putR o.dst x r) (u ++ h) n' T r' h' n'' →
      Tr G (o :: rest) r0 h n (⟨o, r, h, n, on, x⟩ :: T) r' h' n''

theorem renew_same {r : Regs} {g : Nat} {b : Bool} (h : rget r g = some (sBool b)) (t : Nat) : rget ((g, sBool b) :: r) t = rget r t := by
  rw [rget_cons]
  by_cases e : g = t
  · subst e; simp [h]
  · simp [e]
theorem evD_tr {G : Ctx} {K : List Stp → Regs → Heap → Nat → Prop} : ∀ (is : List IOp), is.all (fun o => drawI o.i) = true → ∀ (r : Regs) (h : Heap) (n : Nat) (A : List Stp), evD (CallD G) InvD EscD is r h n A K →
    ∃ T r' h' n', Tr G is r h n T r' h' n' ∧ K (T.reverse ++ A) r' h' n'
  | [], _, r, h, n, A, he => ⟨[], r, h, n, .nil, he⟩
  | o :: is, hd, r, h, n, A, he => by
    simp only [List.all_cons, Bool.and_eq_true] at hd
    have run : ∀ r1, (∀ t, rget r1 t = rget r t) → onR o.guard r1 = some true → evI (CallD G) InvD EscD o.i r1 h n (fun x u n' => catH u h fun h' => evD (CallD G) InvD EscD is (putR o.dst x r1) h' n' (⟨o, r1, h, n, true, x⟩ :: A) K) →
        ∃ T r' h' n', Tr G (o :: is) r h n T r' h' n' ∧ K (T.reverse ++ A) r' h' n' := by
      intro r1 hr1 hg hev
      obtain ⟨x, u, n', h1, h2⟩ := pick_I hd.1 hev
      rw [catH_eq] at h1
      obtain ⟨T, r', h', n'', h3, h4⟩ := evD_tr is hd.2 _ _ _ _ h1
      exact ⟨_ :: T, r', h', n'', .cons hr1 ⟨hg, h2⟩ h3, by simpa using h4⟩
    have skip : ∀ r1, (∀ t, rget r1 t = rget r t) → onR o.guard r1 = some false → evD (CallD G) InvD EscD is (putR o.dst undefS r1) h n (⟨o, r1, h, n, false, undefS⟩ :: A) K →
        ∃ T r' h' n', Tr G (o :: is) r h n T r' h' n' ∧ K (T.reverse ++ A) r' h' n' := by
      intro r1 hr1 hg hev
      obtain ⟨T, r', h', n'', h3, h4⟩ := evD_tr is hd.2 _ _ _ _ hev
      exact ⟨_ :: T, r', h', n'', .cons (u := []) hr1 ⟨hg, rfl, rfl, rfl⟩ h3, by simpa using h4⟩
    simp only [evD_cons, stepD] at he
    split at he
    · rename_i hg
      exact run r (fun _ => rfl) (by simp [onR, hg]) he
    · rename_i g want hg
      split at he
      · rename_i b hb
        have same : ∀ b', b = b' → ∀ t, rget ((g, sBool b') :: r) t = rget r t := fun b' e => by subst e; exact renew_same hb
        rcases rec_cases he with ⟨rfl, he⟩ | ⟨rfl, he⟩
        · cases want with
          | true => exact run _ (same true rfl) (by simp [onR, hg, rget_cons, sBool]) he
          | false => exact skip _ (same true rfl) (by simp [onR, hg, rget_cons, sBool]) he
        · cases want with
          | true => exact skip _ (same false rfl) (by simp [onR, hg, rget_cons, sBool]) he
          | false => exact run _ (same false rfl) (by simp [onR, hg, rget_cons, sBool]) he
      · rename_i x hx hb
        refine skip r (fun _ => rfl) ?_ he
        simp only [onR, hg, hb]
      · exact he.elim

/-! ### The walk, point by point -/
def Rf (T : List Stp) (r : Regs) (i : Nat) : Regs := match nth T i with | some s => s.r | none => r
def Hf (T : List Stp) (h : Heap) (i : Nat) : Heap := match nth T i with | some s => s.h | none => h
def Nf (T : List Stp) (n : Nat) (i : Nat) : Nat := match nth T i with | some s => s.n | none => n
def Xf (T : List Stp) (i : Nat) : SV := match nth T i with | some s => s.x | none => undefS
theorem Tr.head {G : Ctx} {is : List IOp} {r : Regs} {h : Heap} {n : Nat} {T : List Stp} {r' : Regs} {h' : Heap} {n' : Nat} (t : Tr G is r h n T r' h' n') : (∀ t, rget (Rf T r' 0) t = rget r t) ∧ Hf T h' 0 = h ∧ Nf T n' 0 = n := by
  cases t with
  | nil => exact ⟨fun _ => rfl, rfl, rfl⟩
  | cons h1 h2 h3 => exact ⟨h1, rfl, rfl⟩
theorem Tr.len {G : Ctx} {is : List IOp} {r : Regs} {h : Heap} {n : Nat} {T : List Stp} {r' : Regs} {h' : Heap} {n' : Nat} (t : Tr G is r h n T r' h' n') : T.length = is.length := by
  induction t with
  | nil => rfl
  | cons _ _ _ ih => simp [ih]
theorem Tr.end_ {G : Ctx} {is : List IOp} {r : Regs} {h : Heap} {n : Nat} {T : List Stp} {r' : Regs} {h' : Heap} {n' : Nat} (t : Tr G is r h n T r' h' n') : Rf T r' is.length = r' ∧ Hf T h' is.length = h' ∧ Nf T n' is.length = n' := by
  have : nth T is.length = none := by rw [nth_eq, ← t.len]; simp
  simp [Rf, Hf, Nf, this]
theorem Tr.step {G : Ctx} {is : List IOp} {r : Regs} {h : Heap} {n : Nat} {T : List Stp} {r' : Regs} {h' : Heap} {n' : Nat} (t : Tr G is r h n T r' h' n') : ∀ i o, is[i]? = some o → ∃ s u, nth T i = some s ∧ s.o = o ∧
    StepOK G o (Rf T r' i) (Hf T h' i) (Nf T n' i) s.on (Xf T i) u (Nf T n' (i + 1)) ∧ Hf T h' (i + 1) = u ++ Hf T h' i ∧ ∀ t, rget (Rf T r' (i + 1)) t = if o.dst = some t then some (Xf T i) else rget (Rf T r' i) t := by
  induction t with
  | nil => intro i o hi; simp at hi
  | @cons o1 rest r0 r h n on x u n1 T r' h' n'' h1 h2 h3 ih =>
    intro i o hi
    cases i with
    | zero =>
      simp at hi; subst hi
      obtain ⟨e1, e2, e3⟩ := h3.head
      refine ⟨_, u, rfl, rfl, ?_, e2, fun t => ?_⟩
      · show StepOK G o1 r h n on x u (Nf T n'' 0)
        rw [e3]; exact h2
      · show rget (Rf T r' 0) t = if o1.dst = some t then some x else rget r t
        rw [e1]
        cases hd : o1.dst with
        | none => simp [putR]
        | some d =>
          simp only [putR, rget_cons]
          by_cases e : d = t
          · simp [e]
          · simp [e]
    | succ i => exact ih i o (by simpa using hi)

/-! ### What is checked of a region, once -/
def ancB (M : List Nat) (i j : Nat) : Bool := match nth M i with | some m => Nat.testBit m j | none => false
def masks (after : List (List Nat)) : List Nat :=
  after.foldl (fun acc js => acc ++ [js.foldl (fun m j => Nat.lor (Nat.lor m (1 <<< j)) (acc.getD j 0)) 0]) []
def closedB (after : List (List Nat)) (M : List Nat) : Bool :=
  (List.range after.length).all fun i => (List.range after.length).all fun j => !ancB M i j || (match nth after i with
    | some js => js.any fun k => Nat.beq k j || ancB M k j
    | none => false)
def backB (after : List (List Nat)) : Bool :=
  (List.range after.length).all fun i => match nth after i with
    | some js => js.all fun j => decide (j < i)
    | none => false
def okPair (is : List IOp) (M : List Nat) (i j : Nat) : Bool :=
  match nth is i, nth is j with
  | some a, some b =>
    (match a.dst, b.dst with | some x, some y => !(Nat.beq x y) | _, _ => true) &&
    ((match a.dst with | some x => !((looksO b).any (Nat.beq x)) || ancB M j i | none => true) &&
    ((match b.dst with | some y => !((looksO a).any (Nat.beq y)) || ancB M j i | none => true) &&
    (pureI a.i || pureI b.i || ancB M j i)))
  | _, _ => true
def drawOK (is : List IOp) (after : List (List Nat)) : Bool :=
  Nat.beq is.length after.length && (closedB after (masks after) && (backB after && (is.all (fun o => drawI o.i) &&
    (List.range after.length).all fun j => (List.range j).all fun i => okPair is (masks after) i j)))
def snapsL (is : List IOp) (M : List Nat) : List (Nat × Nat) :=
  (List.range is.length).flatMap fun i => match nth is i with
    | some a => match pureI a.i && !freeI a.i with
      | true => (List.range is.length).flatMap fun j => match nth is j with
        | some b => match pureI b.i, (match Nat.ble j i with | true => ancB M i j | false => ancB M j i) with
          | false, false => [(i, j), (i, j + 1)]
          | _, _ => []
        | none => []
      | false => []
    | none => []

theorem obl_spec {G : Ctx} {K : Prop} : ∀ (l : List (Nat × Nat)) (T : List Stp) (h : Heap) (n : Nat), obl (CallD G) InvD EscD l T h n K → K ∧ ∀ i m, (i, m) ∈ l → ∀ s, nth T i = some s → s.on = true → drawI s.o.i = true →
    evI (CallP G) (InvP G) (EscP G) s.o.i s.r (Hf T h m) (Nf T n m) fun x u n' => x = s.x ∧ u = [] ∧ n' = Nf T n m
  | [], T, h, n, he => ⟨he, fun _ _ hm => by cases hm⟩
  | (i0, m0) :: l, T, h, n, he => by
    obtain ⟨h1, h2⟩ := he
    obtain ⟨h3, h4⟩ := obl_spec l T h n h2
    refine ⟨h3, fun i m hm s hs hon hd => ?_⟩
    rcases List.mem_cons.1 hm with hm | hm
    · cases hm
      simp only [hs, hon] at h1
      cases hq : nth T m0 with
      | some q =>
        rw [hq] at h1
        obtain ⟨x, u, n', ⟨rfl, rfl, rfl⟩, h5⟩ := pick_I hd h1
        simpa [Hf, Nf, hq] using h5
      | none =>
        rw [hq] at h1
        obtain ⟨x, u, n', ⟨rfl, rfl, rfl⟩, h5⟩ := pick_I hd h1
        simpa [Hf, Nf, hq] using h5
    · exact h4 i m hm s hs hon hd

theorem cOps_get {P : Program} {N : Nat} {ops : Array Oper} : ∀ {l : List Oper} {is : List IOp}, cOps P N ops l = some is → is.length = l.length ∧ ∀ (i : Nat) (o : Oper), l[i]? = some o → ∃ io, is[i]? = some io ∧ cOp P N ops o = some io
  | [], is, h => by simp [cOps] at h; subst h; simp
  | o :: l, is, h => by
    simp only [cOps] at h
    split at h
    · rename_i i is' hi his
      simp only [Option.some.injEq] at h; subst h
      obtain ⟨h1, h2⟩ := cOps_get his
      refine ⟨by simp [h1], fun j o' hj => ?_⟩
      cases j with
      | zero => simp at hj; subst hj; exact ⟨i, by simp, hi⟩
      | succ j => obtain ⟨io, h3, h4⟩ := h2 j o' (by simpa using hj); exact ⟨io, by simpa using h3, h4⟩
    · cases h
theorem range_all {n : Nat} {p : Nat → Bool} (h : (List.range n).all p = true) (i : Nat) (hi : i < n) : p i = true := by
  rw [List.all_eq_true] at h
  exact h i (List.mem_range.2 hi)
theorem countP_less {α : Type} {p q : α → Bool} : ∀ {l : List α}, (∀ x ∈ l, q x = true → p x = true) → ∀ y ∈ l, p y = true → q y = false → l.countP q < l.countP p
  | x :: l, h, y, hy, hp, hq => by
    have le : l.countP q ≤ l.countP p := List.countP_mono_left fun z hz hqz => h z (by simp [hz]) hqz
    rcases List.mem_cons.1 hy with rfl | hy
    · simp [List.countP_cons, hp, hq]; omega
    · have ih := countP_less (fun z hz => h z (by simp [hz])) y hy hp hq
      simp only [List.countP_cons]
      have hx := h x (by simp)
      by_cases hqx : q x = true
      · simp [hqx, hx hqx]; exact ih
      · by_cases hpx : p x = true
        · simp [hqx, hpx]; omega
        · simp [hqx, hpx]; exact ih
/-- One operation, where its guard and what it looks at are known. -/
theorem step_wp {G : Ctx} {ops : Array Oper} {o : Oper} {io : IOp} (hc : cOp G.P G.N ops o = some io) {r : Regs} {h : Heap} {n : Nat} {ρ : Env} {φ : Nat → List Nat} {a : Act} {w : World} (g : GM G h (lt n) ρ φ w)
    (hr : RM r (lt n) ρ a) {on : Bool} {x : SV} {u : Heap} {n' : Nat} (hs : StepOK G io r h n on x u n') {Q : Exit → Act → World → Prop} (next : Act → World → Prop)
    (hn : ∀ ρ' φ' w', n ≤ n' → (∀ k, lt n k → ρ' k = ρ k) → GM G (u ++ h) (lt n') ρ' φ' w' → x.ok ρ' (lt n') → next (a.put o.dst (x.at ρ')) w') :
    if Region.wanted o (yielded ops a.tmps) then o.wp G.P a w next Q ∨ (o.asks G.P a w ∧ LetsOut Q) else next (a.put o.dst undef) w := by
  unfold cOp at hc
  split at hc
  · rename_i ii gg hii hgg hfit
    simp only [Option.some.injEq] at hc; subst hc
    obtain ⟨hon, hst⟩ := hs
    have run : on = true → o.wp G.P a w next Q := by
      intro e; subst e
      refine evI_sound g hr hii hst _ _ fun x' u' n2 ρ' φ' w' hK hn2 hρ hg hx => ?_
      obtain ⟨rfl, rfl, rfl⟩ := hK
      exact hn ρ' φ' w' hn2 hρ hg hx
    have skip : on = false → next (a.put o.dst undef) w := by
      intro e; subst e
      obtain ⟨rfl, rfl, rfl⟩ := hst
      exact hn ρ φ w (Nat.le_refl _) (fun _ _ => rfl) g trivial
    cases hgd : o.guard with
    | none =>
      rw [hgd] at hgg
      simp [cG] at hgg; subst hgg
      simp only [onR, Option.some.injEq] at hon
      rw [if_pos (by simp [Region.wanted, hgd])]
      exact .inl (run hon.symm)
    | some jw =>
      obtain ⟨j, want⟩ := jw
      rw [hgd] at hgg
      simp only [cG] at hgg
      split at hgg
      · rename_i dj hdj
        simp only [Option.some.injEq] at hgg; subst hgg
        have hy : ∀ v, a.tmps[dj]? = some v → yielded ops a.tmps j = (match v with | .bool b => some b | _ => none) := fun v hv => by
          simp only [yielded, hdj, Option.bind_some, hv]
          cases v <;> rfl
        simp only [onR] at hon
        split at hon
        · rename_i b hb
          obtain ⟨h1, h2⟩ := hr dj _ hb
          have hyv := hy _ h1
          simp only [SV.at, AV.at, LV.at] at hyv
          simp only [Option.some.injEq] at hon
          cases on with
          | true =>
            have : b = want := by simpa using hon
            subst this
            rw [if_pos (by simp [Region.wanted, hgd, hyv])]
            exact .inl (run rfl)
          | false =>
            have : b ≠ want := by simpa using hon
            rw [if_neg (by simp [Region.wanted, hgd, hyv, this])]
            exact skip rfl
        · rename_i y hx hb
          obtain ⟨h1, h2⟩ := hr dj _ hb
          have hyv := hy _ h1
          have hnb : ∀ b, y.at ρ ≠ .bool b := fun b hbb => by
            have := bool_of_at hbb
            subst this
            exact hx b rfl
          have hyn : yielded ops a.tmps j = none := by
            rw [hyv]
            split
            · rename_i b hbb; exact absurd hbb (hnb b)
            · rfl
          simp only [Option.some.injEq] at hon
          rw [if_neg (by simp [Region.wanted, hgd, hyn])]
          exact skip hon.symm
        · cases hon
      · cases hgg
  · cases hc

def restr (l : List Nat) (r : Regs) : Regs := r.filter fun p => l.any (Nat.beq p.1)
theorem restr_get (l : List Nat) : ∀ (r : Regs) (t : Nat), rget (restr l r) t = if t ∈ l then rget r t else none
  | [], t => by simp [restr, rget]
  | (t', x) :: r, t => by
    have ih := restr_get l r t
    unfold restr at ih ⊢
    rw [List.filter_cons]
    by_cases hm : t' ∈ l
    · have : l.any (Nat.beq t') = true := List.any_eq_true.2 ⟨t', hm, Nat.beq_refl t'⟩
      simp only [this, if_true, rget_cons, ih]
      by_cases e : t' = t
      · subst e; simp [hm]
      · simp [e]
    · have : l.any (Nat.beq t') = false := by
        cases hq : l.any (Nat.beq t') with
        | false => rfl
        | true =>
          obtain ⟨y, h1, h2⟩ := List.any_eq_true.1 hq
          exact absurd (Nat.eq_of_beq_eq_true h2 ▸ h1) hm
      simp only [this, Bool.false_eq_true, if_false, ih, rget_cons]
      by_cases e : t' = t
      · subst e; simp [hm]
      · simp [e]
theorem StepOK.congr {G : Ctx} {o : IOp} {r r2 : Regs} {h : Heap} {n : Nat} {on : Bool} {x : SV} {u : Heap} {n' : Nat} (hd : drawI o.i = true) (H : ∀ t ∈ looksO o, rget r t = rget r2 t) (hs : StepOK G o r h n on x u n') : StepOK G o r2 h n on x u n' := by
  obtain ⟨h1, h2⟩ := hs
  refine ⟨?_, ?_⟩
  · rw [← h1]
    cases hg : o.guard with
    | none => rfl
    | some gw =>
      obtain ⟨g, want⟩ := gw
      simp only [onR]
      rw [H g (by simp [looksO, hg])]
  · cases on with
    | true =>
      simp only at h2 ⊢
      rw [← evI_congr hd (fun t ht => H t (by simp [looksO, ht]))]
      exact h2
    | false => exact h2
theorem StepOK.pure {G : Ctx} {o : IOp} {r : Regs} {h : Heap} {n : Nat} {on : Bool} {x : SV} {u : Heap} {n' : Nat} (hd : drawI o.i = true) (hp : pureI o.i = true) (hs : StepOK G o r h n on x u n') : u = [] ∧ n' = n := by
  cases on with
  | true => exact pure_I hd hp hs.2
  | false => exact hs.2.2
theorem nth_some {α : Type} {l : List α} {i : Nat} {x : α} : nth l i = some x ↔ l[i]? = some x := by rw [nth_eq]

theorem lastOf (p : Nat → Bool) (i : Nat) : ∀ m, i ≤ m → (∀ k, i ≤ k → k < m → p k = false) ∨ ∃ k, i ≤ k ∧ k < m ∧ p k = true ∧ ∀ j, k < j → j < m → p j = false
  | 0, h => .inl fun k h1 h2 => by omega
  | m + 1, h => by
    by_cases hi : i = m + 1
    · exact .inl fun k h1 h2 => by omega
    · cases hp : p m with
      | true => exact .inr ⟨m, by omega, by omega, hp, fun j h1 h2 => by omega⟩
      | false =>
        rcases lastOf p i m (by omega) with h1 | ⟨k, h1, h2, h3, h4⟩
        · exact .inl fun k h2 h3 => by
            by_cases hk : k = m
            · subst hk; exact hp
            · exact h1 k h2 (by omega)
        · exact .inr ⟨k, h1, by omega, h3, fun j h5 h6 => by
            by_cases hk : j = m
            · subst hk; exact hp
            · exact h4 j h5 (by omega)⟩
theorem firstOf (p : Nat → Bool) (m : Nat) : ∀ d, (∀ k, m ≤ k → k < m + d → p k = false) ∨ ∃ k, m ≤ k ∧ k < m + d ∧ p k = true ∧ ∀ j, m ≤ j → j < k → p j = false
  | 0 => .inl fun k h1 h2 => by omega
  | d + 1 => by
    rcases firstOf p m d with h | ⟨k, h1, h2, h3, h4⟩
    · cases hp : p (m + d) with
      | true => exact .inr ⟨m + d, by omega, by omega, hp, fun j h1 h2 => h j h1 h2⟩
      | false =>
        refine .inl fun k h1 h2 => ?_
        by_cases hk : k = m + d
        · subst hk; exact hp
        · exact h k h1 (by omega)
    · exact .inr ⟨k, h1, by omega, h3, h4⟩

section
variable {G : Ctx} {is : List IOp} {after : List (List Nat)} {r : Regs} {h : Heap} {n : Nat} {T : List Stp} {r' : Regs} {h' : Heap} {n' : Nat}
theorem Tr.val (t : Tr G is r h n T r' h' n') : ∀ i, i ≤ is.length → ∀ u y, rget (Rf T r' i) u = some y →
    (∃ (j : Nat) (o : IOp), j < i ∧ is[j]? = some o ∧ o.dst = some u ∧ y = Xf T j) ∨ ((∀ (j : Nat) (o : IOp), j < i → is[j]? = some o → o.dst ≠ some u) ∧ rget r u = some y)
  | 0, _, u, y, hy => .inr ⟨fun j o hj => by omega, by rw [← t.head.1]; exact hy⟩
  | i + 1, hi, u, y, hy => by
    obtain ⟨o, ho⟩ : ∃ o, is[i]? = some o := ⟨_, List.getElem?_eq_getElem (by omega)⟩
    obtain ⟨s, v, h1, h2, h3, h4, h5⟩ := t.step i o ho
    rw [h5] at hy
    by_cases hd : o.dst = some u
    · rw [if_pos hd] at hy
      exact .inl ⟨i, o, by omega, ho, hd, by simpa using hy.symm⟩
    · rw [if_neg hd] at hy
      rcases t.val i (by omega) u y hy with ⟨j, o', h6, h7⟩ | ⟨h6, h7⟩
      · exact .inl ⟨j, o', by omega, h7⟩
      · refine .inr ⟨fun j o' hj ho' => ?_, h7⟩
        by_cases hji : j = i
        · subst hji; rw [ho] at ho'; cases ho'; exact hd
        · exact h6 j o' (by omega) ho'
def effB (is : List IOp) (k : Nat) : Bool := match nth is k with | some o => !pureI o.i | none => false
theorem Tr.same (t : Tr G is r h n T r' h' n') (hd : is.all (fun o => drawI o.i) = true) (m : Nat) : ∀ d, m + d ≤ is.length → (∀ k, m ≤ k → k < m + d → effB is k = false) → Hf T h' (m + d) = Hf T h' m ∧ Nf T n' (m + d) = Nf T n' m
  | 0, _, _ => ⟨rfl, rfl⟩
  | d + 1, hm, he => by
    obtain ⟨o, ho⟩ : ∃ o, is[m + d]? = some o := ⟨_, List.getElem?_eq_getElem (by omega)⟩
    obtain ⟨s, v, h1, h2, h3, h4, h5⟩ := t.step _ o ho
    obtain ⟨h6, h7⟩ := t.same hd m d (by omega) fun k h1 h2 => he k h1 (by omega)
    have hp := he (m + d) (by omega) (by omega)
    simp only [effB, nth_eq, ho, Bool.not_eq_false'] at hp
    have hdo : drawI o.i = true := List.all_eq_true.1 hd o (List.mem_of_getElem? ho)
    obtain ⟨rfl, h8⟩ := h3.pure hdo hp
    exact ⟨by rw [show m + (d + 1) = m + d + 1 by omega, h4, h6]; rfl, by rw [show m + (d + 1) = m + d + 1 by omega, h8, h7]⟩
end

section
variable {G : Ctx} {is : List IOp} {after : List (List Nat)} {r : Regs} {h : Heap} {n : Nat} {T : List Stp} {r' : Regs} {h' : Heap} {n' : Nat}
/-- Where one is, whatever order was drawn so far. -/
structure At (G : Ctx) (is : List IOp) (after : List (List Nat)) (r : Regs) (T : List Stp) (h' : Heap) (n' : Nat) (listed : Array Bool) (a : Act) (w : World) (m : Nat) (ρ : Env) (φ : Nat → List Nat) : Prop where
  size : listed.size = is.length
  down : ∀ i js, listed.getD i false = true → nth after i = some js → ∀ j ∈ js, listed.getD j false = true
  tmps : a.tmps.size = G.N
  defers : a.defers = []
  le : m ≤ is.length
  eff : ∀ i, effB is i = true → (listed.getD i false = true ↔ i < m)
  gm : GM G (Hf T h' m) (lt (Nf T n' m)) ρ φ w
  done : ∀ (i : Nat) (o : IOp), is[i]? = some o → listed.getD i false = true → ∀ d, o.dst = some d → a.tmps[d]? = some ((Xf T i).at ρ) ∧ (Xf T i).ok ρ (lt (Nf T n' m))
  old : ∀ t x, rget r t = some x → (∀ (i : Nat) (o : IOp), is[i]? = some o → listed.getD i false = true → o.dst ≠ some t) → a.tmps[t]? = some (x.at ρ) ∧ x.ok ρ (lt (Nf T n' m))

structure Checked (is : List IOp) (after : List (List Nat)) : Prop where
  len : is.length = after.length
  closed : closedB after (masks after) = true
  back : backB after = true
  draw : is.all (fun o => drawI o.i) = true
  pair : ∀ i j, i < j → j < is.length → okPair is (masks after) i j = true
theorem drawOK_spec (h : drawOK is after = true) : Checked is after := by
  simp only [drawOK, Bool.and_eq_true] at h
  obtain ⟨h1, h2, h3, h4, h5⟩ := h
  have hl := Nat.eq_of_beq_eq_true h1
  exact ⟨hl, h2, h3, h4, fun i j hij hj => range_all (range_all h5 j (by omega)) i hij⟩

/-- What stands ahead of what is done, is done. -/
theorem down_anc (c : Checked is after) {L : Nat → Prop} : ∀ i, i < is.length → (∀ k, k < i → L k → ∀ js, nth after k = some js → ∀ j ∈ js, L j) → (∀ js, nth after i = some js → ∀ j ∈ js, L j) → ∀ j, j < is.length → ancB (masks after) i j = true → L j := by
  intro i
  induction i using Nat.strongRecOn with
  | _ i ih =>
    intro hi hL hLi j hj ha
    have hc := range_all (range_all c.closed i (by rw [← c.len]; exact hi)) j (by rw [← c.len]; exact hj)
    simp only [ha, Bool.not_true, Bool.false_or] at hc
    split at hc
    · rename_i js hjs
      obtain ⟨k, hk, hk2⟩ := List.any_eq_true.1 hc
      have hLk := hLi js hjs k hk
      rw [Bool.or_eq_true] at hk2
      rcases hk2 with e | e
      · exact Nat.eq_of_beq_eq_true e ▸ hLk
      · have hb := range_all c.back i (by rw [← c.len]; exact hi)
        rw [hjs] at hb
        have hki : k < i := of_decide_eq_true (List.all_eq_true.1 hb k hk)
        exact ih k hki (by omega) (fun k' h1 h2 => hL k' (by omega) h2) (hL k hki hLk) j hj e
    · cases hc

theorem getD_set (l : Array Bool) (i j : Nat) (hi : i < l.size) : (l.setIfInBounds i true).getD j false = (if i = j then true else l.getD j false) := by
  simp only [Array.getD_eq_getD_getElem?, Array.getElem?_setIfInBounds]
  by_cases e : i = j
  · subst e; simp [hi]
  · simp [e]
end

theorem cOp_dst {P : Program} {N : Nat} {ops : Array Oper} {o : Oper} {io : IOp} (h : cOp P N ops o = some io) : io.dst = o.dst ∧ fitsD N o.dst = true := by
  unfold cOp at h
  split at h
  · simp only [Option.some.injEq] at h; subst h; exact ⟨rfl, by assumption⟩
  · cases h
theorem any_beq {x : Nat} {l : List Nat} : l.any (Nat.beq x) = true ↔ x ∈ l := by
  constructor
  · intro h
    obtain ⟨y, h1, h2⟩ := List.any_eq_true.1 h
    exact Nat.eq_of_beq_eq_true h2 ▸ h1
  · intro h
    exact List.any_eq_true.2 ⟨x, h, Nat.beq_refl x⟩
theorem okPair_spec {is : List IOp} {M : List Nat} {i j : Nat} {a b : IOp} (ha : is[i]? = some a) (hb : is[j]? = some b) (h : okPair is M i j = true) :
    (∀ d, a.dst = some d → b.dst ≠ some d) ∧ (∀ d, a.dst = some d → d ∈ looksO b → ancB M j i = true) ∧ (∀ d, b.dst = some d → d ∈ looksO a → ancB M j i = true) ∧ (pureI a.i = false → pureI b.i = false → ancB M j i = true) := by
  simp only [okPair, nth_eq, ha, hb, Bool.and_eq_true] at h
  obtain ⟨h1, h2, h3, h4⟩ := h
  refine ⟨fun d hd hd' => ?_, fun d hd hm => ?_, fun d hd hm => ?_, fun hp hq => ?_⟩
  · simp only [hd, hd', Nat.beq_refl] at h1; cases h1
  · simp only [hd, Bool.or_eq_true, any_beq.2 hm] at h2
    rcases h2 with h2 | h2
    · cases h2
    · exact h2
  · simp only [hd, Bool.or_eq_true, any_beq.2 hm] at h3
    rcases h3 with h3 | h3
    · cases h3
    · exact h3
  · simpa [hp, hq] using h4

section
variable {G : Ctx} {is : List IOp} {after : List (List Nat)} {r : Regs} {h : Heap} {n : Nat} {T : List Stp} {r' : Regs} {h' : Heap} {n' : Nat}
theorem At.step (c : Checked is after) (t : Tr G is r h n T r' h' n')
    (hob : ∀ i m, (i, m) ∈ snapsL is (masks after) → ∀ s, nth T i = some s → s.on = true → drawI s.o.i = true → evI (CallP G) (InvP G) (EscP G) s.o.i s.r (Hf T h' m) (Nf T n' m) fun x u n2 => x = s.x ∧ u = [] ∧ n2 = Nf T n' m)
    {ops : Array Oper} {i : Nat} {o : Oper} {io : IOp} (hc : cOp G.P G.N ops o = some io) (hio : is[i]? = some io)
    {listed : Array Bool} {a : Act} {w : World} {m : Nat} {ρ : Env} {φ : Nat → List Nat} (A : At G is after r T h' n' listed a w m ρ φ)
    (hni : listed.getD i false = false) (hrd : ∀ js, nth after i = some js → ∀ j ∈ js, listed.getD j false = true) {Q : Exit → Act → World → Prop} (next : Act → World → Prop)
    (hn : ∀ a w m ρ φ, At G is after r T h' n' (listed.setIfInBounds i true) a w m ρ φ → next a w) :
    if Region.wanted o (yielded ops a.tmps) then o.wp G.P a w next Q ∨ (o.asks G.P a w ∧ LetsOut Q) else next (a.put o.dst undef) w := by
  have hi : i < is.length := (List.getElem?_eq_some_iff.1 hio).1
  have hdr : ∀ {j : Nat} {oj : IOp}, is[j]? = some oj → drawI oj.i = true := fun hj => List.all_eq_true.1 c.draw _ (List.mem_of_getElem? hj)
  obtain ⟨s, u, hs, hso, hstep, hH, hR⟩ := t.step i io hio
  have hX : Xf T i = s.x := by simp [Xf, hs]
  have hRi : Rf T r' i = s.r := by simp [Rf, hs]
  -- what stands ahead of i is done; what stands behind it, isn't
  have up : ∀ j, j < is.length → ancB (masks after) i j = true → listed.getD j false = true := down_anc c (L := fun j => listed.getD j false = true) i hi (fun k _ hk js hjs j hj => A.down k js hk hjs j hj) hrd
  have dn : ∀ j, j < is.length → listed.getD j false = true → ancB (masks after) j i = false := fun j hj hl => by
    cases hq : ancB (masks after) j i with
    | false => rfl
    | true =>
      have := down_anc c (L := fun j => listed.getD j false = true) j hj (fun k _ hk js hjs j hj => A.down k js hk hjs j hj) (fun js hjs k hk => A.down j js hl hjs k hk) i hi hq
      simp [hni] at this
  have hpr : ∀ {j k : Nat} {oj ok : IOp}, is[j]? = some oj → is[k]? = some ok → j < k → _ := fun {j k oj ok} hj hk hjk => okPair_spec hj hk (c.pair j k hjk (List.getElem?_eq_some_iff.1 hk).1)
  -- what it looks at
  have hr : RM (restr (looksO io) (Rf T r' i)) (lt (Nf T n' m)) ρ a := by
    intro d y hy
    rw [restr_get] at hy
    split at hy
    · rename_i hmem
      rcases t.val i (by omega) d y hy with ⟨j, oj, h1, h2, h3, rfl⟩ | ⟨h1, h2⟩
      · exact A.done j oj h2 (up j (by omega) ((hpr h2 hio h1).2.1 d h3 hmem)) d h3
      · refine A.old d y h2 fun k ok hk hl hd => ?_
        have hkl := (List.getElem?_eq_some_iff.1 hk).1
        rcases Nat.lt_trichotomy k i with h4 | h4 | h4
        · exact h1 k ok h4 hk hd
        · subst h4; simp [hni] at hl
        · have := (hpr hio hk h4).2.2.1 d hd hmem
          rw [dn k hkl hl] at this; cases this
    · cases hy
  have hsz := A.size
  have fin : ∀ (m' : Nat) (ρ' : Env) (φ' : Nat → List Nat) (w' : World), m' ≤ is.length → (∀ k, lt (Nf T n' m) k → ρ' k = ρ k) → Nf T n' m ≤ Nf T n' m' → GM G (Hf T h' m') (lt (Nf T n' m')) ρ' φ' w' → (Xf T i).ok ρ' (lt (Nf T n' m')) →
      (∀ j, effB is j = true → ((listed.setIfInBounds i true).getD j false = true ↔ j < m')) → next (a.put o.dst ((Xf T i).at ρ')) w' := by
    intro m' ρ' φ' w' hm' hρ hnn hg hx heff
    have hii : i < listed.size := by omega
    obtain ⟨hdst, hfit⟩ := cOp_dst hc
    have keep : ∀ (d : Nat) (y : SV), o.dst ≠ some d → a.tmps[d]? = some (y.at ρ) ∧ y.ok ρ (lt (Nf T n' m)) → (a.put o.dst ((Xf T i).at ρ')).tmps[d]? = some (y.at ρ') ∧ y.ok ρ' (lt (Nf T n' m')) := by
      intro d y hne ⟨h1, h2⟩
      refine ⟨?_, SV.ok_mono hρ (fun k hk => Nat.lt_of_lt_of_le hk hnn) h2⟩
      rw [SV.at_mono hρ h2]
      cases hd : o.dst with
      | none => simpa [Act.put] using h1
      | some e =>
        have : e ≠ d := fun he => hne (by rw [hd, he])
        simp only [Act.put]
        rw [Array.getElem?_setIfInBounds_ne this]; exact h1
    refine hn _ _ m' ρ' φ' ⟨by simp [hsz], fun j js hl hjs k hk => ?_, by rw [Act.put_size]; exact A.tmps, by rw [Act.put_defers']; exact A.defers, hm', heff, hg, fun j oj hj hl d hd => ?_, fun d y hy hno => ?_⟩
    · rw [getD_set _ _ _ hii] at hl ⊢
      by_cases e : i = k
      · simp [e]
      · simp only [if_neg e]
        by_cases e2 : i = j
        · subst e2; exact hrd js hjs k hk
        · rw [if_neg e2] at hl; exact A.down j js hl hjs k hk
    · rw [getD_set _ _ _ hii] at hl
      by_cases e : i = j
      · subst e
        rw [hio] at hj; cases hj
        refine ⟨?_, hx⟩
        rw [hdst] at hd
        simp only [Act.put, hd]
        rw [hd] at hfit
        have : d < a.tmps.size := by rw [A.tmps]; simpa [fitsD] using hfit
        simp [this]
      · rw [if_neg e] at hl
        refine keep d _ (fun hd' => ?_) (A.done j oj hj hl d hd)
        rw [← hdst] at hd'
        rcases Nat.lt_or_gt_of_ne e with h4 | h4
        · exact (hpr hio hj h4).1 d hd' hd
        · exact (hpr hj hio h4).1 d hd hd'
    · refine keep d y (fun hd' => ?_) (A.old d y hy fun j oj hj hl => hno j oj hj (by rw [getD_set _ _ _ hii]; split <;> simp [hl]))
      exact hno i io hio (by rw [getD_set _ _ _ hii]; simp) (by rw [hdst]; exact hd')
  cases hp : pureI io.i with
  | false =>
    -- it changes something: all that did so ahead of it is done, nothing behind it
    have hei : effB is i = true := by simp [effB, nth_eq, hio, hp]
    have hmi : m ≤ i := by
      have := (A.eff i hei)
      rw [hni] at this
      simp at this; omega
    have hnone : ∀ k, m ≤ k → k < m + (i - m) → effB is k = false := by
      intro k h1 h2
      cases hq : effB is k with
      | false => rfl
      | true =>
        have hki : k < i := by omega
        have hko : is[k]? = some is[k] := List.getElem?_eq_getElem (by omega)
        have hpk : pureI is[k].i = false := by simpa [effB, nth_eq, hko] using hq
        have := up k (by omega) ((hpr hko hio hki).2.2.2 hpk hp)
        have := (A.eff k hq).1 this
        omega
    obtain ⟨e1, e2⟩ := t.same c.draw m (i - m) (by omega) hnone
    rw [show m + (i - m) = i by omega] at e1 e2
    have hg := A.gm
    rw [← e1, ← e2] at hg
    rw [← e2] at hr
    refine step_wp hc hg hr (hstep.congr (hdr hio) fun d hd => by rw [restr_get, if_pos hd]) next fun ρ' φ' w' h1 h2 h3 h4 => ?_
    rw [← hH] at h3
    refine fin (i + 1) ρ' φ' w' (by omega) (by rw [← e2]; exact h2) (by rw [← e2]; exact h1) h3 h4 fun j hj => ?_
    rw [getD_set _ _ _ (by omega)]
    by_cases e : i = j
    · subst e; simp
    · rw [if_neg e, A.eff j hj]
      constructor
      · intro h5; omega
      · intro h5
        have hji : j < i := by omega
        have hjo : is[j]? = some is[j] := List.getElem?_eq_getElem (by omega)
        have hpj : pureI is[j].i = false := by simpa [effB, nth_eq, hjo] using hj
        exact (A.eff j hj).1 (up j (by omega) ((hpr hjo hio hji).2.2.2 hpj hp))
  | true =>
    obtain ⟨rfl, hn1⟩ := hstep.pure (hdr hio) hp
    -- it comes to the same at m
    have hst : StepOK G io (Rf T r' i) (Hf T h' m) (Nf T n' m) s.on (Xf T i) [] (Nf T n' m) := by
      rw [hn1] at hstep
      refine ⟨hstep.1, ?_⟩
      have h2 := hstep.2
      cases hon : s.on with
      | false => rw [hon] at h2; exact ⟨h2.1, rfl, rfl⟩
      | true =>
        rw [hon] at h2
        simp only at h2 ⊢
        cases hf : freeI io.i with
        | true => exact free_I (hdr hio) hf h2 _ _ ⟨rfl, rfl, rfl⟩
        | false =>
          have hsn : ∀ k, k < is.length → effB is k = true → (match Nat.ble k i with | true => ancB (masks after) i k | false => ancB (masks after) k i) = false → ∀ m', (m' = k ∨ m' = k + 1) → Hf T h' m' = Hf T h' m → Nf T n' m' = Nf T n' m →
              evI (CallP G) (InvP G) (EscP G) io.i (Rf T r' i) (Hf T h' m) (Nf T n' m) fun x' u' m2 => x' = Xf T i ∧ u' = [] ∧ m2 = Nf T n' m := by
            intro k hk hek hun m' hm' e1 e2
            have hko : is[k]? = some is[k] := List.getElem?_eq_getElem hk
            have hpk : pureI is[k].i = false := by simpa [effB, nth_eq, hko] using hek
            have := hob i m' (by
              unfold snapsL
              refine List.mem_flatMap.2 ⟨i, List.mem_range.2 hi, ?_⟩
              simp only [nth_eq, hio, hp, hf, Bool.not_false, Bool.and_self]
              refine List.mem_flatMap.2 ⟨k, List.mem_range.2 hk, ?_⟩
              simp only [hko, hpk]
              rw [hun]
              simp
              exact hm') s hs hon (by rw [hso]; exact hdr hio)
            rw [hso, e1, e2] at this
            rw [hX, hRi]
            exact this
          by_cases him : i ≤ m
          · rcases lastOf (effB is) i m him with h3 | ⟨k, h3, h4, h5, h6⟩
            · obtain ⟨e1, e2⟩ := t.same c.draw i (m - i) (by have := A.le; omega) (fun k h4 h5 => h3 k h4 (by omega))
              rw [show i + (m - i) = m by omega] at e1 e2
              rw [e1, e2]; exact h2
            · have hkl : k < is.length := by have := A.le; omega
              obtain ⟨e1, e2⟩ := t.same c.draw (k + 1) (m - (k + 1)) (by have := A.le; omega) (fun j h7 h8 => h6 j (by omega) (by omega))
              rw [show k + 1 + (m - (k + 1)) = m by omega] at e1 e2
              have hki : k ≠ i := by
                intro e; subst e
                simp [effB, nth_eq, hio, hp] at h5
              have hb : Nat.ble k i = false := by
                cases hq : Nat.ble k i with
                | false => rfl
                | true => have := Nat.le_of_ble_eq_true hq; omega
              refine hsn k hkl h5 ?_ (k + 1) (.inr rfl) e1.symm e2.symm
              rw [hb]
              exact dn k hkl ((A.eff k h5).2 h4)
          · rcases firstOf (effB is) m (i - m) with h3 | ⟨k, h3, h4, h5, h6⟩
            · obtain ⟨e1, e2⟩ := t.same c.draw m (i - m) (by omega) h3
              rw [show m + (i - m) = i by omega] at e1 e2
              rw [← e1, ← e2]; exact h2
            · have hkl : k < is.length := by omega
              obtain ⟨e1, e2⟩ := t.same c.draw m (k - m) (by omega) (fun j h7 h8 => h6 j h7 (by omega))
              rw [show m + (k - m) = k by omega] at e1 e2
              have hb : Nat.ble k i = true := Nat.ble_eq_true_of_le (by omega)
              refine hsn k hkl h5 ?_ k (.inl rfl) e1 e2
              rw [hb]
              cases hq : ancB (masks after) i k with
              | false => rfl
              | true =>
                have := (A.eff k h5).1 (up k hkl hq)
                omega
    refine step_wp hc A.gm hr (hst.congr (hdr hio) fun d hd => by rw [restr_get, if_pos hd]) next fun ρ' φ' w' h1 h2 h3 h4 => ?_
    refine fin m ρ' φ' w' A.le h2 h1 (by simpa using h3) h4 fun j hj => ?_
    rw [getD_set _ _ _ (by omega)]
    by_cases e : i = j
    · subst e; simp [effB, nth_eq, hio, hp] at hj
    · rw [if_neg e]; exact A.eff j hj
end

section
variable {G : Ctx} {is : List IOp} {after : List (List Nat)} {r : Regs} {h : Heap} {n : Nat} {T : List Stp} {r' : Regs} {h' : Heap} {n' : Nat}
theorem ready_iff {ops : Array Oper} {listed : Array Bool} {i : Nat} (hm : i ∈ Region.ready .any ops listed) : ∃ o, ops[i]? = some o ∧ listed.getD i true = false ∧ ∀ j ∈ afterOf o, listed.getD j false = true := by
  unfold Region.ready at hm
  rw [List.mem_filter] at hm
  obtain ⟨h1, h2⟩ := hm
  rw [Bool.and_eq_true] at h2
  cases ho : ops[i]? with
  | none => simp [ho] at h2
  | some o =>
    refine ⟨o, rfl, by simpa using h2.1, fun j hj => ?_⟩
    have h3 := h2.2
    simp only [ho, Option.map_some, Option.getD_some] at h3
    rw [Array.all_eq_true'] at h3
    simp only [afterOf, List.mem_map, List.mem_filter] at hj
    obtain ⟨e, ⟨h4, h5⟩, rfl⟩ := hj
    have := h3 e (by simpa using h4)
    simpa [h5] using this
theorem ready_of {ops : Array Oper} {listed : Array Bool} {i : Nat} {o : Oper} (ho : ops[i]? = some o) (hl : listed.getD i true = false) (ha : ∀ j ∈ afterOf o, listed.getD j false = true) : i ∈ Region.ready .any ops listed := by
  unfold Region.ready
  rw [List.mem_filter]
  refine ⟨List.mem_range.2 (Array.getElem?_eq_some_iff.1 ho).1, ?_⟩
  rw [Bool.and_eq_true]
  refine ⟨by simp [hl], ?_⟩
  simp only [ho, Option.map_some, Option.getD_some]
  rw [Array.all_eq_true']
  intro e he
  cases hb : Region.binds .any e with
  | false => rfl
  | true => simpa using ha e.on (by simp only [afterOf, List.mem_map, List.mem_filter]; exact ⟨e, ⟨by simpa using he, hb⟩, rfl⟩)
theorem getD_tf {l : Array Bool} {i : Nat} (hi : i < l.size) : l.getD i true = l.getD i false := by
  simp [Array.getD_eq_getD_getElem?, hi]

theorem wpAny_draw (c : Checked is after) (t : Tr G is r h n T r' h' n')
    (hob : ∀ i m, (i, m) ∈ snapsL is (masks after) → ∀ s, nth T i = some s → s.on = true → drawI s.o.i = true → evI (CallP G) (InvP G) (EscP G) s.o.i s.r (Hf T h' m) (Nf T n' m) fun x u n2 => x = s.x ∧ u = [] ∧ n2 = Nf T n' m)
    {ops : Array Oper} (hc : cOps G.P G.N ops ops.toList = some is) (ha : ops.toList.map afterOf = after) {K : X → Regs → Heap → Nat → Prop} (hK : K .nrm r' h' n') :
    ∀ (fuel : Nat) (listed : Array Bool) (a : Act) (w : World), (∃ m ρ φ, At G is after r T h' n' listed a w m ρ φ) → (List.range is.length).countP (fun i => !listed.getD i false) ≤ fuel → wpAny G.P .any ops (QK G K) fuel listed a w := by
  obtain ⟨hlen, hget⟩ := cOps_get hc
  have hlen' : is.length = ops.size := by simpa using hlen
  have hat : ∀ {i : Nat} {o : Oper}, ops[i]? = some o → ∃ io, is[i]? = some io ∧ cOp G.P G.N ops o = some io := fun {i o} ho => hget i o (by simpa using ho)
  have haf : ∀ {i : Nat} {o : Oper}, ops[i]? = some o → nth after i = some (afterOf o) := fun {i o} ho => by
    rw [nth_eq, ← ha]; simp [ho]
  -- all is done
  have fin : ∀ (listed : Array Bool) (a : Act) (w : World), (∃ m ρ φ, At G is after r T h' n' listed a w m ρ φ) → Region.ready .any ops listed = [] → QK G K .normal a w := by
    intro listed a w ⟨m, ρ, φ, A⟩ hr
    have all : ∀ i, i < is.length → listed.getD i false = true := by
      intro i
      induction i using Nat.strongRecOn with
      | _ i ih =>
        intro hi
        cases hq : listed.getD i false with
        | true => rfl
        | false =>
          exfalso
          have ho : ops[i]? = some ops[i] := Array.getElem?_eq_getElem (by omega)
          have : i ∈ Region.ready .any ops listed := ready_of ho (by rw [getD_tf (by rw [A.size]; exact hi)]; exact hq) fun j hj => by
            have hb := range_all c.back i (by rw [← c.len]; exact hi)
            rw [haf ho] at hb
            have hji : j < i := of_decide_eq_true (List.all_eq_true.1 hb j hj)
            exact ih j hji (by omega)
          rw [hr] at this; cases this
    have hm : Hf T h' m = h' ∧ Nf T n' m = n' := by
      obtain ⟨e1, e2, e3⟩ := t.end_
      have hle := A.le
      obtain ⟨e4, e5⟩ := t.same c.draw m (is.length - m) (by omega) fun k h1 h2 => by
        cases hq : effB is k with
        | false => rfl
        | true => have := (A.eff k hq).1 (all k (by omega)); omega
      rw [show m + (is.length - m) = is.length by omega] at e4 e5
      exact ⟨by rw [← e4, e2], by rw [← e5, e3]⟩
    have hg := A.gm
    rw [hm.1, hm.2] at hg
    refine ⟨r', h', n', hK, ρ, φ, hg, fun d y hy => ?_, A.tmps, A.defers⟩
    rw [← t.end_.1] at hy
    rcases t.val is.length (Nat.le_refl _) d y hy with ⟨j, oj, h1, h2, h3, rfl⟩ | ⟨h1, h2⟩
    · have := A.done j oj h2 (all j h1) d h3
      rw [hm.2] at this; exact this
    · have := A.old d y h2 fun j oj hj _ => h1 j oj (List.getElem?_eq_some_iff.1 hj).1 hj
      rw [hm.2] at this; exact this
  intro fuel
  induction fuel with
  | zero =>
    intro listed a w hA hf
    have hr : Region.ready .any ops listed = [] := by
      cases hq : Region.ready .any ops listed with
      | nil => rfl
      | cons i l =>
        exfalso
        obtain ⟨o, h1, h2, _⟩ := ready_iff (i := i) (ops := ops) (listed := listed) (by rw [hq]; simp)
        obtain ⟨m, ρ, φ, A⟩ := hA
        have hi : i < is.length := by rw [hlen']; exact (Array.getElem?_eq_some_iff.1 h1).1
        have h0 : (List.range is.length).countP (fun i => !listed.getD i false) = 0 := by omega
        rw [List.countP_eq_zero] at h0
        have := h0 i (List.mem_range.2 hi)
        rw [getD_tf (by rw [A.size]; exact hi)] at h2
        simp [h2] at this
    exact ⟨hr, fin listed a w hA hr⟩
  | succ fuel ih =>
    intro listed a w hA hf
    refine ⟨fin listed a w hA, fun i hi => ?_⟩
    obtain ⟨o, h1, h2, h3⟩ := ready_iff hi
    obtain ⟨io, h4, h5⟩ := hat h1
    obtain ⟨m, ρ, φ, A⟩ := hA
    have hil : i < is.length := (List.getElem?_eq_some_iff.1 h4).1
    have h2' : listed.getD i false = false := by rw [← getD_tf (by rw [A.size]; exact hil)]; exact h2
    unfold wpOp
    simp only [h1]
    refine A.step c t hob h5 h4 h2' (fun js hjs j hj => ?_) _ fun a w m ρ φ A' => ih _ a w ⟨m, ρ, φ, A'⟩ ?_
    · rw [haf h1] at hjs; cases hjs; exact h3 j hj
    · have := countP_less (l := List.range is.length) (p := fun i => !listed.getD i false) (q := fun j => !(listed.setIfInBounds i true).getD j false) (fun j _ hq => by
          simp only [getD_set _ _ _ (show i < listed.size by rw [A.size]; exact hil)] at hq
          split at hq
          · simp at hq
          · exact hq) i (List.mem_range.2 hil) (by simp [h2']) (by simp only [getD_set _ _ _ (show i < listed.size by rw [A.size]; exact hil)]; simp)
      omega

/-- **A region that draws its order: the walk in the order of the text.** -/
theorem drawP_intro (hm : G.P.follows .mixedOrders = true) (hok : drawOK is after = true) {K : X → Regs → Heap → Nat → Prop}
    (he : evD (CallD G) InvD EscD is r h n [] fun T r h n => obl (CallD G) InvD EscD (snapsL is (masks after)) T.reverse h n (K .nrm r h n)) : DrawP G is after r h n K := by
  rw [DrawP_eq]
  intro id ops hc ha a w ⟨ρ, φ, hg, hr, hsz, hdf⟩
  have c := drawOK_spec hok
  obtain ⟨T, r', h', n', ht, hk⟩ := evD_tr is c.draw r h n [] he
  simp only [List.append_nil, List.reverse_reverse] at hk
  obtain ⟨hK, hob⟩ := obl_spec _ _ _ _ hk
  obtain ⟨hlen, _⟩ := cOps_get hc
  have hlen' : is.length = ops.size := by simpa using hlen
  obtain ⟨e1, e2, e3⟩ := ht.head
  have hnone : ∀ i, (Array.replicate ops.size false).getD i false = false := fun i => by
    simp only [Array.getD_eq_getD_getElem?, Array.getElem?_replicate]; split <;> rfl
  refine wp_region_any hm (wpAny_draw c ht hob hc ha hK _ _ _ _ ⟨0, ρ, φ, ?_⟩ (by
    refine Nat.le_trans List.countP_le_length ?_
    simp [hlen']))
  refine ⟨by simp [hlen'], fun i js hl => (by rw [hnone] at hl; cases hl), hsz, hdf, Nat.zero_le _, fun i _ => (by rw [hnone]; simp), ?_, fun i o _ hl => (by rw [hnone] at hl; cases hl), fun t x hx _ => ?_⟩
  · rw [e2, e3]
    exact GM.mono hg (fun _ _ => rfl) (fun _ hk => hk) (fun _ _ _ _ _ => rfl) hg.frm.drew (Nat.le_refl _)
  · rw [e3]; exact hr t x hx
end
end Go.Sx
