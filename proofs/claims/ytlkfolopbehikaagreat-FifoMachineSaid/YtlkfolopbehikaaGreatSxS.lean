/- part -/
import Derived.Test.YtlkfolopbehikaaGreatSxR
import Derived.Orders
set_option linter.unusedSimpArgs false
set_option linter.unusedVariables false
set_option linter.unusedSectionVars false
namespace Go.Sx
open Go
structure Stp where
 o : IOp
 r : Regs
 h : Heap
 n : Nat
 on : Bool
 x : SV
section
variable (CP : FuncId -> List AV -> Heap -> Nat -> (SV -> Heap -> Nat -> Prop) -> Prop)
variable (IP : AV -> String -> List AV -> Heap -> Nat -> (SV -> Heap -> Nat -> Prop) -> Prop)
variable (EP : Op -> Regs -> Heap -> Nat -> (SV -> Heap -> Nat -> Prop) -> Prop)
def ZRs (o : IOp) (next : Regs -> Heap -> Nat -> List Stp -> (List Stp -> Regs -> Heap -> Nat -> Prop) -> Prop) (r : Regs) (h : Heap) (n : Nat) (T : List Stp) (K : List Stp -> Regs -> Heap -> Nat -> Prop) : Prop := match o.guard with
  | none => evI CP IP EP o.i r h n fun x u n' => catH u h fun h' => next (putR o.dst x r) h' n' (⟨o, r, h, n, true, x⟩ :: T) K
  | some (g, want) => match rget r g with
   | some (.o (.l (.v (.bool b)))) => @Bool.rec (fun _ => Prop)
    (match want with
     | true => next (putR o.dst ZBe ((g, ZAR false) :: r)) h n (⟨o, (g, ZAR false) :: r, h, n, false, ZBe⟩ :: T) K
     | false => evI CP IP EP o.i ((g, ZAR false) :: r) h n fun x u n' => catH u h fun h' => next (putR o.dst x ((g, ZAR false) :: r)) h' n' (⟨o, (g, ZAR false) :: r, h, n, true, x⟩ :: T) K)
    (match want with
     | false => next (putR o.dst ZBe ((g, ZAR true) :: r)) h n (⟨o, (g, ZAR true) :: r, h, n, false, ZBe⟩ :: T) K
     | true => evI CP IP EP o.i ((g, ZAR true) :: r) h n fun x u n' => catH u h fun h' => next (putR o.dst x ((g, ZAR true) :: r)) h' n' (⟨o, (g, ZAR true) :: r, h, n, true, x⟩ :: T) K) b
   | some _ => next (putR o.dst ZBe r) h n (⟨o, r, h, n, false, ZBe⟩ :: T) K
   | none => False
def nilD (r : Regs) (h : Heap) (n : Nat) (T : List Stp) (K : List Stp -> Regs -> Heap -> Nat -> Prop) : Prop := K T r h n
noncomputable def evD (l : List IOp) : Regs -> Heap -> Nat -> List Stp -> (List Stp -> Regs -> Heap -> Nat -> Prop) -> Prop :=
 @List.rec IOp (fun _ => Regs -> Heap -> Nat -> List Stp -> (List Stp -> Regs -> Heap -> Nat -> Prop) -> Prop) nilD (fun o _ next => ZRs CP IP EP o next) l
theorem ZQG (o : IOp) (rest : List IOp) (r : Regs) (h : Heap) (n : Nat) (T : List Stp) (K : List Stp -> Regs -> Heap -> Nat -> Prop) : evD CP IP EP (o :: rest) r h n T K = ZRs CP IP EP o (evD CP IP EP rest) r h n T K := rfl
def obl : List (Nat × Nat) -> List Stp -> Heap -> Nat -> Prop -> Prop
 | [], _, _, _, K => K
 | (i, m) :: l, T, h, n, K => (match nth T i with
   | some s => match s.on with
    | true => match nth T m with
     | some q => evI CP IP EP s.o.i s.r q.h q.n fun x u n' => x = s.x /\ u = [] /\ n' = q.n
     | none => evI CP IP EP s.o.i s.r h n fun x u n' => x = s.x /\ u = [] /\ n' = n
    | false => True
   | none => False) /\ obl l T h n K
end
def onR (g : Option (Nat × Bool)) (r : Regs) : Option Bool :=
 match g with
 | none => some true
 | some (g, want) => match rget r g with
  | some (.o (.l (.v (.bool b)))) => some (b == want)
  | some _ => some false
  | none => none
def ZDG (o : IOp) : List Nat := ZAN o.i ++ (match o.guard with | some (g, _) => [g] | none => [])
def ZCV (G : Ctx) (o : IOp) (r : Regs) (h : Heap) (n : Nat) (on : Bool) (x : SV) (u : Heap) (n' : Nat) : Prop :=
 onR o.guard r = some on /\ match on with
  | true => evI (CallP G) (InvP G) (EscR G) o.i r h n fun x' u' m => x' = x /\ u' = u /\ m = n'
  | false => x = ZBe /\ u = [] /\ n' = n
inductive Tr (G : Ctx) : List IOp -> Regs -> Heap -> Nat -> List Stp -> Regs -> Heap -> Nat -> Prop
 | nil {r h n} : Tr G [] r h n [] r h n
 | cons {o rest r0 r h n on x u n' T r' h' n''} : (∀ t, rget r t = rget r0 t) -> ZCV G o r h n on x u n' -> Tr G rest (putR o.dst x r) (u ++ h) n' T r' h' n'' ->
   Tr G (o :: rest) r0 h n (⟨o, r, h, n, on, x⟩ :: T) r' h' n''
theorem ZNP {r : Regs} {g : Nat} {b : Bool} (h : rget r g = some (ZAR b)) (t : Nat) : rget ((g, ZAR b) :: r) t = rget r t := by
 rw [ZBG]
 by_cases e : g = t
 ·subst e; simp [h]
 ·simp [e]
theorem ZPD {G : Ctx} {K : List Stp -> Regs -> Heap -> Nat -> Prop} : ∀ (is : List IOp), is.all (fun o => ZCh o.i) = true -> ∀ (r : Regs) (h : Heap) (n : Nat) (A : List Stp), evD (CallD G) (InvD G) (EscD G) is r h n A K ->
  ∃ T r' h' n', Tr G is r h n T r' h' n' /\ K (T.reverse ++ A) r' h' n'
 | [], _, r, h, n, A, he => ⟨[], r, h, n, .nil, he⟩
 | o :: is, hd, r, h, n, A, he => by
  simp only [List.all_cons, Bool.and_eq_true] at hd
  have run : ∀ r1, (∀ t, rget r1 t = rget r t) -> onR o.guard r1 = some true -> evI (CallD G) (InvD G) (EscD G) o.i r1 h n (fun x u n' => catH u h fun h' => evD (CallD G) (InvD G) (EscD G) is (putR o.dst x r1) h' n' (⟨o, r1, h, n, true, x⟩ :: A) K) ->
    ∃ T r' h' n', Tr G (o :: is) r h n T r' h' n' /\ K (T.reverse ++ A) r' h' n' := by
   intro r1 hr1 hg hev
   obtain ⟨x, u, n', h1, h2⟩ := ZKO hd.1 hev
   rw [ZGj] at h1
   obtain ⟨T, r', h', n'', h3, h4⟩ := ZPD is hd.2 _ _ _ _ h1
   exact ⟨_ :: T, r', h', n'', .cons hr1 ⟨hg, h2⟩ h3, by simpa using h4⟩
  have skip : ∀ r1, (∀ t, rget r1 t = rget r t) -> onR o.guard r1 = some false -> evD (CallD G) (InvD G) (EscD G) is (putR o.dst ZBe r1) h n (⟨o, r1, h, n, false, ZBe⟩ :: A) K ->
    ∃ T r' h' n', Tr G (o :: is) r h n T r' h' n' /\ K (T.reverse ++ A) r' h' n' := by
   intro r1 hr1 hg hev
   obtain ⟨T, r', h', n'', h3, h4⟩ := ZPD is hd.2 _ _ _ _ hev
   exact ⟨_ :: T, r', h', n'', .cons (u := []) hr1 ⟨hg, rfl, rfl, rfl⟩ h3, by simpa using h4⟩
  simp only [ZQG, ZRs] at he
  split at he
  ·rename_i hg
   exact run r (fun _ => rfl) (by simp [onR, hg]) he
  ·rename_i g want hg
   split at he
   ·rename_i b hb
    have same : ∀ b', b = b' -> ∀ t, rget ((g, ZAR b') :: r) t = rget r t := fun b' e => by subst e; exact ZNP hb
    rcases ZFZ he with ⟨rfl, he⟩ | ⟨rfl, he⟩
    ·cases want with
     | true => exact run _ (same true rfl) (by simp [onR, hg, ZBG, ZAR]) he
     | false => exact skip _ (same true rfl) (by simp [onR, hg, ZBG, ZAR]) he
    ·cases want with
     | true => exact skip _ (same false rfl) (by simp [onR, hg, ZBG, ZAR]) he
     | false => exact run _ (same false rfl) (by simp [onR, hg, ZBG, ZAR]) he
   ·rename_i x hx hb
    refine skip r (fun _ => rfl) ?_ he
    simp only [onR, hg, hb]
   ·exact he.elim
def Rf (T : List Stp) (r : Regs) (i : Nat) : Regs := match nth T i with | some s => s.r | none => r
def Hf (T : List Stp) (h : Heap) (i : Nat) : Heap := match nth T i with | some s => s.h | none => h
def Nf (T : List Stp) (n : Nat) (i : Nat) : Nat := match nth T i with | some s => s.n | none => n
def Xf (T : List Stp) (i : Nat) : SV := match nth T i with | some s => s.x | none => ZBe
theorem Tr.head {G : Ctx} {is : List IOp} {r : Regs} {h : Heap} {n : Nat} {T : List Stp} {r' : Regs} {h' : Heap} {n' : Nat} (t : Tr G is r h n T r' h' n') : (∀ t, rget (Rf T r' 0) t = rget r t) /\ Hf T h' 0 = h /\ Nf T n' 0 = n := by
 cases t with
 | nil => exact ⟨fun _ => rfl, rfl, rfl⟩
 | cons h1 h2 h3 => exact ⟨h1, rfl, rfl⟩
theorem Tr.len {G : Ctx} {is : List IOp} {r : Regs} {h : Heap} {n : Nat} {T : List Stp} {r' : Regs} {h' : Heap} {n' : Nat} (t : Tr G is r h n T r' h' n') : T.length = is.length := by
 induction t with
 | nil => rfl
 | cons _ _ _ ih => simp [ih]
theorem Tr.end_ {G : Ctx} {is : List IOp} {r : Regs} {h : Heap} {n : Nat} {T : List Stp} {r' : Regs} {h' : Heap} {n' : Nat} (t : Tr G is r h n T r' h' n') : Rf T r' is.length = r' /\ Hf T h' is.length = h' /\ Nf T n' is.length = n' := by
 have : nth T is.length = none := by rw [ZAc, <- t.len]; simp
 simp [Rf, Hf, Nf, this]
theorem Tr.step {G : Ctx} {is : List IOp} {r : Regs} {h : Heap} {n : Nat} {T : List Stp} {r' : Regs} {h' : Heap} {n' : Nat} (t : Tr G is r h n T r' h' n') : ∀ i o, is[i]? = some o -> ∃ s u, nth T i = some s /\ s.o = o /\
  ZCV G o (Rf T r' i) (Hf T h' i) (Nf T n' i) s.on (Xf T i) u (Nf T n' (i + 1)) /\ Hf T h' (i + 1) = u ++ Hf T h' i /\ ∀ t, rget (Rf T r' (i + 1)) t = if o.dst = some t then some (Xf T i) else rget (Rf T r' i) t := by
 induction t with
 | nil => intro i o hi; simp at hi
 | @cons o1 rest r0 r h n on x u n1 T r' h' n'' h1 h2 h3 ih =>
  intro i o hi
  cases i with
  | zero =>
   simp at hi; subst hi
   obtain ⟨e1, e2, e3⟩ := h3.head
   refine ⟨_, u, rfl, rfl, ?_, e2, fun t => ?_⟩
   ·show ZCV G o1 r h n on x u (Nf T n'' 0)
    rw [e3]; exact h2
   ·show rget (Rf T r' 0) t = if o1.dst = some t then some x else rget r t
    rw [e1]
    cases hd : o1.dst with
    | none => simp [putR]
    | some d =>
     simp only [putR, ZBG]
     by_cases e : d = t
     ·simp [e]
     ·simp [e]
  | succ i => exact ih i o (by simpa using hi)
def ancB (M : List Nat) (i j : Nat) : Bool := match nth M i with | some m => Nat.testBit m j | none => false
def masks (after : List (List Nat)) : List Nat :=
 after.foldl (fun acc js => acc ++ [js.foldl (fun m j => Nat.lor (Nat.lor m (1 <<< j)) (acc.getD j 0)) 0]) []
def ZPE (after : List (List Nat)) (M : List Nat) : Bool :=
 (List.range after.length).all fun i => (List.range after.length).all fun j => !ancB M i j || (match nth after i with
  | some js => js.any fun k => Nat.beq k j || ancB M k j
  | none => false)
def ZQH (after : List (List Nat)) : Bool :=
 (List.range after.length).all fun i => match nth after i with
  | some js => js.all fun j => decide (j < i)
  | none => false
def allV : List LV -> Bool
 | [] => true
 | .v _ :: xs => allV xs
 | _ :: _ => false
def ZMJ (o : IOp) : Bool := match o.guard, o.dst, o.i with
 | none, some _, .alloc z => allV z
 | _, _, _ => false
def loB (is : List IOp) (k : Nat) : Bool := match nth is k with | some o => ZMJ o | none => false
def effB (is : List IOp) (k : Nat) : Bool := match nth is k with | some o => !ZCF o.i | none => false
def ZPF (is : List IOp) (M : List Nat) : Bool :=
 (List.range is.length).all fun j => !loB is j || (List.range is.length).all fun i => !ancB M i j || (List.range j).all fun k => !effB is k || ancB M i k
def ZMK (is : List IOp) (M : List Nat) (i j : Nat) : Bool :=
 match nth is i, nth is j with
 | some a, some b =>
  (match a.dst, b.dst with | some x, some y => !(Nat.beq x y) | _, _ => true) &&
  ((match a.dst with | some x => !((ZDG b).any (Nat.beq x)) || ancB M j i | none => true) &&
  ((match b.dst with | some y => !((ZDG a).any (Nat.beq y)) || ancB M j i | none => true) &&
  (ZCF a.i || ZCF b.i || ZMJ b || ancB M j i)))
 | _, _ => true
def ZML (is : List IOp) (after : List (List Nat)) : Bool :=
 Nat.beq is.length after.length && (ZPE after (masks after) && (ZQH after && (ZPF is (masks after) &&
  (List.range after.length).all fun j => (List.range j).all fun i => ZMK is (masks after) i j)))
def ZKP (is : List IOp) (M : List Nat) : List (Nat × Nat) :=
 (List.range is.length).flatMap fun i => match nth is i with
  | some a => match ZCF a.i && !ZCg a.i with
   | true => (List.range is.length).flatMap fun j => match nth is j with
    | some b => match ZCF b.i, (match Nat.ble j i with | true => ancB M i j | false => ancB M j i) with
     | false, false => [(i, j), (i, j + 1)]
     | _, _ => []
    | none => []
   | false => []
  | none => []
theorem ZMM {G : Ctx} {K : Prop} : ∀ (l : List (Nat × Nat)) (T : List Stp) (h : Heap) (n : Nat), obl (CallD G) (InvD G) (EscD G) l T h n K -> K /\ ∀ i m, (i, m) ∈ l -> ∀ s, nth T i = some s -> s.on = true -> ZCh s.o.i = true ->
  evI (CallP G) (InvP G) (EscR G) s.o.i s.r (Hf T h m) (Nf T n m) fun x u n' => x = s.x /\ u = [] /\ n' = Nf T n m
 | [], T, h, n, he => ⟨he, fun _ _ hm => by cases hm⟩
 | (i0, m0) :: l, T, h, n, he => by
  obtain ⟨h1, h2⟩ := he
  obtain ⟨h3, h4⟩ := ZMM l T h n h2
  refine ⟨h3, fun i m hm s hs hon hd => ?_⟩
  rcases List.mem_cons.1 hm with hm | hm
  ·cases hm
   simp only [hs, hon] at h1
   cases hq : nth T m0 with
   | some q =>
    rw [hq] at h1
    obtain ⟨x, u, n', ⟨rfl, rfl, rfl⟩, h5⟩ := ZKO hd h1
    simpa [Hf, Nf, hq] using h5
   | none =>
    rw [hq] at h1
    obtain ⟨x, u, n', ⟨rfl, rfl, rfl⟩, h5⟩ := ZKO hd h1
    simpa [Hf, Nf, hq] using h5
  ·exact h4 i m hm s hs hon hd
theorem ZFb {P : Program} {N : Nat} {ops : Array Oper} : ∀ {l : List Oper} {is : List IOp}, cOps P N ops l = some is -> is.length = l.length /\ ∀ (i : Nat) (o : Oper), l[i]? = some o -> ∃ io, is[i]? = some io /\ cOp P N ops o = some io
 | [], is, h => by simp [cOps] at h; subst h; simp
 | o :: l, is, h => by
  simp only [cOps] at h
  split at h
  ·rename_i i is' hi his
   simp only [Option.some.injEq] at h; subst h
   obtain ⟨h1, h2⟩ := ZFb his
   refine ⟨by simp [h1], fun j o' hj => ?_⟩
   cases j with
   | zero => simp at hj; subst hj; exact ⟨i, by simp, hi⟩
   | succ j => obtain ⟨io, h3, h4⟩ := h2 j o' (by simpa using hj); exact ⟨io, by simpa using h3, h4⟩
  ·cases h
theorem ZBI {n : Nat} {p : Nat -> Bool} (h : (List.range n).all p = true) (i : Nat) (hi : i < n) : p i = true := by
 rw [List.all_eq_true] at h
 exact h i (List.mem_range.2 hi)
theorem ZDt {α : Type} {p q : α -> Bool} : ∀ {l : List α}, (∀ x ∈ l, q x = true -> p x = true) -> ∀ y ∈ l, p y = true -> q y = false -> l.countP q < l.countP p
 | x :: l, h, y, hy, hp, hq => by
  have le : l.countP q <= l.countP p := List.countP_mono_left fun z hz hqz => h z (by simp [hz]) hqz
  rcases List.mem_cons.1 hy with rfl | hy
  ·simp [List.countP_cons, hp, hq]; omega
  ·have ih := ZDt (fun z hz => h z (by simp [hz])) y hy hp hq
   simp only [List.countP_cons]
   have hx := h x (by simp)
   by_cases hqx : q x = true
   ·simp [hqx, hx hqx]; exact ih
   ·by_cases hpx : p x = true
    ·simp [hqx, hpx]; omega
    ·simp [hqx, hpx]; exact ih
theorem ZSR {CP : FuncId -> List AV -> Heap -> Nat -> (SV -> Heap -> Nat -> Prop) -> Prop} {IP : AV -> String -> List AV -> Heap -> Nat -> (SV -> Heap -> Nat -> Prop) -> Prop} {EP EP' : Op -> Regs -> Heap -> Nat -> (SV -> Heap -> Nat -> Prop) -> Prop}
  (H : ∀ op r h n K, EP op r h n K -> EP' op r h n K) {i : I} {r : Regs} {h : Heap} {n : Nat} {K : SV -> Heap -> Nat -> Prop} (he : evI CP IP EP i r h n K) : evI CP IP EP' i r h n K := by
 cases i <;> first | exact he | exact H _ _ _ _ _ he
theorem ZRt {G : Ctx} {ops : Array Oper} {o : Oper} {io : IOp} (hc : cOp G.P G.N ops o = some io) {r : Regs} {h : Heap} {n : Nat} {ρ : Env} {φ : Nat -> List Nat} {a : Act} {w : World} (g : GM G h (lt n) ρ φ w)
  (hr : RM r (lt n) ρ a) {on : Bool} {x : SV} {u : Heap} {n' : Nat} (hs : ZCV G io r h n on x u n') {Q : Exit -> Act -> World -> Prop} (next : Act -> World -> Prop)
  (hn : ∀ ρ' φ' w', n <= n' -> (∀ k, lt n k -> ρ' k = ρ k) -> GM G (u ++ h) (lt n') ρ' φ' w' -> x.ok ρ' (lt n') -> next (a.put o.dst (x.at ρ')) w') :
  if Region.wanted o (yielded ops a.tmps) then o.wp G.P a w next Q \/ (o.asks G.P a w /\ LetsOut Q) else next (a.put o.dst undef) w := by
 unfold cOp at hc
 split at hc
 ·rename_i ii gg hii hgg hfit
  simp only [Option.some.injEq] at hc; subst hc
  obtain ⟨hon, hst⟩ := hs
  have run : on = true -> o.wp G.P a w next Q := by
   intro e; subst e
   refine ZGr g hr hii (ZSR (fun _ _ _ _ _ h => h.out) hst) _ _ fun x' u' n2 ρ' φ' w' hK hn2 hρ hg hx => ?_
   obtain ⟨rfl, rfl, rfl⟩ := hK
   exact hn ρ' φ' w' hn2 hρ hg hx
  have skip : on = false -> next (a.put o.dst undef) w := by
   intro e; subst e
   obtain ⟨rfl, rfl, rfl⟩ := hst
   exact hn ρ φ w (Nat.le_refl _) (fun _ _ => rfl) g trivial
  cases hgd : o.guard with
  | none =>
   rw [hgd] at hgg
   simp [cG] at hgg; subst hgg
   simp only [onR, Option.some.injEq] at hon
   rw [if_pos (by simp [Region.wanted, hgd])]
   exact .inl (run hon.symm)
  | some jw =>
   obtain ⟨j, want⟩ := jw
   rw [hgd] at hgg
   simp only [cG] at hgg
   split at hgg
   ·rename_i dj hdj
    simp only [Option.some.injEq] at hgg; subst hgg
    have hy : ∀ v, a.tmps[dj]? = some v -> yielded ops a.tmps j = (match v with | .bool b => some b | _ => none) := fun v hv => by
     simp only [yielded, hdj, Option.bind_some, hv]
     cases v <;> rfl
    simp only [onR] at hon
    split at hon
    ·rename_i b hb
     obtain ⟨h1, h2⟩ := hr dj _ hb
     have hyv := hy _ h1
     simp only [SV.at, AV.at, LV.at] at hyv
     simp only [Option.some.injEq] at hon
     cases on with
     | true =>
      have : b = want := by simpa using hon
      subst this
      rw [if_pos (by simp [Region.wanted, hgd, hyv])]
      exact .inl (run rfl)
     | false =>
      have : b ≠ want := by simpa using hon
      rw [if_neg (by simp [Region.wanted, hgd, hyv, this])]
      exact skip rfl
    ·rename_i y hx hb
     obtain ⟨h1, h2⟩ := hr dj _ hb
     have hyv := hy _ h1
     have hnb : ∀ b, y.at ρ ≠ .bool b := fun b hbb => by
      have := ZHo hbb
      subst this
      exact hx b rfl
     have hyn : yielded ops a.tmps j = none := by
      rw [hyv]
      split
      ·rename_i b hbb; exact absurd hbb (hnb b)
      ·rfl
     simp only [Option.some.injEq] at hon
     rw [if_neg (by simp [Region.wanted, hgd, hyn])]
     exact skip hon.symm
    ·cases hon
   ·cases hgg
 ·cases hc
theorem ZCV.congr {G : Ctx} {o : IOp} {r r2 : Regs} {h : Heap} {n : Nat} {on : Bool} {x : SV} {u : Heap} {n' : Nat} (hd : ZCh o.i = true) (H : ∀ t ∈ ZDG o, rget r t = rget r2 t) (hs : ZCV G o r h n on x u n') : ZCV G o r2 h n on x u n' := by
 obtain ⟨h1, h2⟩ := hs
 refine ⟨?_, ?_⟩
 ·rw [<- h1]
  cases hg : o.guard with
  | none => rfl
  | some gw =>
   obtain ⟨g, want⟩ := gw
   simp only [onR]
   rw [H g (by simp [ZDG, hg])]
 ·cases on with
  | true =>
   simp only at h2 ⊢
   rw [<- ZKM (EP := EscR G) (fun _ _ _ H => EscR.congr H) hd (fun t ht => H t (by simp [ZDG, ht]))]
   exact h2
  | false => exact h2
theorem ZCV.pure {G : Ctx} {o : IOp} {r : Regs} {h : Heap} {n : Nat} {on : Bool} {x : SV} {u : Heap} {n' : Nat} (hd : ZCh o.i = true) (hp : ZCF o.i = true) (hs : ZCV G o r h n on x u n') : u = [] /\ n' = n := by
 cases on with
 | true => exact ZQZ hd hp hs.2
 | false => exact hs.2.2
theorem ZQb (p : Nat -> Bool) (i : Nat) : ∀ m, i <= m -> (∀ k, i <= k -> k < m -> p k = false) \/ ∃ k, i <= k /\ k < m /\ p k = true /\ ∀ j, k < j -> j < m -> p j = false
 | 0, h => .inl fun k h1 h2 => by omega
 | m + 1, h => by
  by_cases hi : i = m + 1
  ·exact .inl fun k h1 h2 => by omega
  ·cases hp : p m with
   | true => exact .inr ⟨m, by omega, by omega, hp, fun j h1 h2 => by omega⟩
   | false =>
    rcases ZQb p i m (by omega) with h1 | ⟨k, h1, h2, h3, h4⟩
    ·exact .inl fun k h2 h3 => by
      by_cases hk : k = m
      ·subst hk; exact hp
      ·exact h1 k h2 (by omega)
    ·exact .inr ⟨k, h1, by omega, h3, fun j h5 h6 => by
      by_cases hk : j = m
      ·subst hk; exact hp
      ·exact h4 j h5 (by omega)⟩
theorem ZPG (p : Nat -> Bool) (m : Nat) : ∀ d, (∀ k, m <= k -> k < m + d -> p k = false) \/ ∃ k, m <= k /\ k < m + d /\ p k = true /\ ∀ j, m <= j -> j < k -> p j = false
 | 0 => .inl fun k h1 h2 => by omega
 | d + 1 => by
  rcases ZPG p m d with h | ⟨k, h1, h2, h3, h4⟩
  ·cases hp : p (m + d) with
   | true => exact .inr ⟨m + d, by omega, by omega, hp, fun j h1 h2 => h j h1 h2⟩
   | false =>
    refine .inl fun k h1 h2 => ?_
    by_cases hk : k = m + d
    ·subst hk; exact hp
    ·exact h k h1 (by omega)
  ·exact .inr ⟨k, h1, by omega, h3, h4⟩
section
variable {G : Ctx} {is : List IOp} {after : List (List Nat)} {r : Regs} {h : Heap} {n : Nat} {T : List Stp} {r' : Regs} {h' : Heap} {n' : Nat}
theorem Tr.val (t : Tr G is r h n T r' h' n') : ∀ i, i <= is.length -> ∀ u y, rget (Rf T r' i) u = some y ->
  (∃ (j : Nat) (o : IOp), j < i /\ is[j]? = some o /\ o.dst = some u /\ y = Xf T j) \/ ((∀ (j : Nat) (o : IOp), j < i -> is[j]? = some o -> o.dst ≠ some u) /\ rget r u = some y)
 | 0, _, u, y, hy => .inr ⟨fun j o hj => by omega, by rw [<- t.head.1]; exact hy⟩
 | i + 1, hi, u, y, hy => by
  obtain ⟨o, ho⟩ : ∃ o, is[i]? = some o := ⟨_, List.getElem?_eq_getElem (by omega)⟩
  obtain ⟨s, v, h1, h2, h3, h4, h5⟩ := t.step i o ho
  rw [h5] at hy
  by_cases hd : o.dst = some u
  ·rw [if_pos hd] at hy
   exact .inl ⟨i, o, by omega, ho, hd, by simpa using hy.symm⟩
  ·rw [if_neg hd] at hy
   rcases t.val i (by omega) u y hy with ⟨j, o', h6, h7⟩ | ⟨h6, h7⟩
   ·exact .inl ⟨j, o', by omega, h7⟩
   ·refine .inr ⟨fun j o' hj ho' => ?_, h7⟩
    by_cases hji : j = i
    ·subst hji; rw [ho] at ho'; cases ho'; exact hd
    ·exact h6 j o' (by omega) ho'
theorem Tr.same (t : Tr G is r h n T r' h' n') (hd : is.all (fun o => ZCh o.i) = true) (m : Nat) : ∀ d, m + d <= is.length -> (∀ k, m <= k -> k < m + d -> effB is k = false) -> Hf T h' (m + d) = Hf T h' m /\ Nf T n' (m + d) = Nf T n' m
 | 0, _, _ => ⟨rfl, rfl⟩
 | d + 1, hm, he => by
  obtain ⟨o, ho⟩ : ∃ o, is[m + d]? = some o := ⟨_, List.getElem?_eq_getElem (by omega)⟩
  obtain ⟨s, v, h1, h2, h3, h4, h5⟩ := t.step _ o ho
  obtain ⟨h6, h7⟩ := t.same hd m d (by omega) fun k h1 h2 => he k h1 (by omega)
  have hp := he (m + d) (by omega) (by omega)
  simp only [effB, ZAc, ho, Bool.not_eq_false'] at hp
  have hdo : ZCh o.i = true := List.all_eq_true.1 hd o (List.mem_of_getElem? ho)
  obtain ⟨rfl, h8⟩ := h3.pure hdo hp
  exact ⟨by rw [show m + (d + 1) = m + d + 1 by omega, h4, h6]; rfl, by rw [show m + (d + 1) = m + d + 1 by omega, h8, h7]⟩
end
section
variable {G : Ctx} {is : List IOp} {after : List (List Nat)} {r : Regs} {h : Heap} {n : Nat} {T : List Stp} {r' : Regs} {h' : Heap} {n' : Nat}
def JK (G : Ctx) (z : List LV) (h : Heap) (φ : Nat -> List Nat) (w : World) (b : Nat) : Prop :=
 b < w.heap.size /\ G.w0.heap.size <= b /\ (∃ t, w.heap[b]? = some (.cells (z.map (LV.at fun _ => { blk := 0, off := 0, cap := 0, nil := true })).toArray t (0, 0))) /\ ∀ k e, hget h k = some e -> b ∉ φ k
structure At (G : Ctx) (is : List IOp) (after : List (List Nat)) (r : Regs) (T : List Stp) (h' : Heap) (n' : Nat) (listed : Array Bool) (a : Act) (w : World) (m : Nat) (ρ : Env) (φ : Nat -> List Nat) (β : Nat -> Nat) : Prop where
 size : listed.size = is.length
 down : ∀ i js, listed.getD i false = true -> nth after i = some js -> ∀ j ∈ js, listed.getD j false = true
 tmps : a.tmps.size = G.N
 defers : a.defers = []
 le : m <= is.length
 eff1 : ∀ i, effB is i = true -> i < m -> listed.getD i false = true
 eff2 : ∀ i, effB is i = true -> loB is i = false -> listed.getD i false = true -> i < m
 gm : GM G (Hf T h' m) (lt (Nf T n' m)) ρ φ w
 done : ∀ (i : Nat) (o : IOp), is[i]? = some o -> listed.getD i false = true -> (loB is i = true -> i < m) -> ∀ d, o.dst = some d -> a.tmps[d]? = some ((Xf T i).at ρ) /\ (Xf T i).ok ρ (lt (Nf T n' m))
 old : ∀ t x, rget r t = some x -> (∀ (i : Nat) (o : IOp), is[i]? = some o -> listed.getD i false = true -> o.dst ≠ some t) -> a.tmps[t]? = some (x.at ρ) /\ x.ok ρ (lt (Nf T n' m))
 jk : ∀ (i : Nat) (o : IOp) z d, is[i]? = some o -> loB is i = true -> m <= i -> listed.getD i false = true -> o.i = .alloc z -> o.dst = some d -> a.tmps[d]? = some (.pointer (some ⟨β i, 0, none⟩)) /\ JK G z (Hf T h' m) φ w (β i)
 jd : ∀ i j, loB is i = true -> loB is j = true -> m <= i -> m <= j -> listed.getD i false = true -> listed.getD j false = true -> i ≠ j -> β i ≠ β j
structure Checked (is : List IOp) (after : List (List Nat)) : Prop where
 len : is.length = after.length
 closed : ZPE after (masks after) = true
 back : ZQH after = true
 loose : ZPF is (masks after) = true
 pair : ∀ i j, i < j -> j < is.length -> ZMK is (masks after) i j = true
theorem ZLY (h : ZML is after = true) : Checked is after := by
 simp only [ZML, Bool.and_eq_true] at h
 obtain ⟨h1, h2, h3, h4, h5⟩ := h
 have hl := Nat.eq_of_beq_eq_true h1
 exact ⟨hl, h2, h3, h4, fun i j hij hj => ZBI (ZBI h5 j (by omega)) i hij⟩
theorem ZMN (c : Checked is after) {L : Nat -> Prop} : ∀ i, i < is.length -> (∀ k, k < i -> L k -> ∀ js, nth after k = some js -> ∀ j ∈ js, L j) -> (∀ js, nth after i = some js -> ∀ j ∈ js, L j) -> ∀ j, j < is.length -> ancB (masks after) i j = true -> L j := by
 intro i
 induction i using Nat.strongRecOn with
 | _ i ih =>
  intro hi hL hLi j hj ha
  have hc := ZBI (ZBI c.closed i (by rw [<- c.len]; exact hi)) j (by rw [<- c.len]; exact hj)
  simp only [ha, Bool.not_true, Bool.false_or] at hc
  split at hc
  ·rename_i js hjs
   obtain ⟨k, hk, hk2⟩ := List.any_eq_true.1 hc
   have hLk := hLi js hjs k hk
   rw [Bool.or_eq_true] at hk2
   rcases hk2 with e | e
   ·exact Nat.eq_of_beq_eq_true e ▸ hLk
   ·have hb := ZBI c.back i (by rw [<- c.len]; exact hi)
    rw [hjs] at hb
    have hki : k < i := of_decide_eq_true (List.all_eq_true.1 hb k hk)
    exact ih k hki (by omega) (fun k' h1 h2 => hL k' (by omega) h2) (hL k hki hLk) j hj e
  ·cases hc
theorem ZA6 (l : Array Bool) (i j : Nat) (hi : i < l.size) : (l.setIfInBounds i true).getD j false = (if i = j then true else l.getD j false) := by
 simp only [Array.getD_eq_getD_getElem?, Array.getElem?_setIfInBounds]
 by_cases e : i = j
 ·subst e; simp [hi]
 ·simp [e]
end
theorem ZLZ {P : Program} {N : Nat} {ops : Array Oper} {o : Oper} {io : IOp} (h : cOp P N ops o = some io) : io.dst = o.dst /\ ZLL N o.dst = true := by
 unfold cOp at h
 split at h
 ·simp only [Option.some.injEq] at h; subst h; exact ⟨rfl, by assumption⟩
 ·cases h
theorem ZPH {x : Nat} {l : List Nat} : l.any (Nat.beq x) = true ↔ x ∈ l := by
 constructor
 ·intro h
  obtain ⟨y, h1, h2⟩ := List.any_eq_true.1 h
  exact Nat.eq_of_beq_eq_true h2 ▸ h1
 ·intro h
  exact List.any_eq_true.2 ⟨x, h, Nat.beq_refl x⟩
theorem ZLa {is : List IOp} {M : List Nat} {i j : Nat} {a b : IOp} (ha : is[i]? = some a) (hb : is[j]? = some b) (h : ZMK is M i j = true) :
  (∀ d, a.dst = some d -> b.dst ≠ some d) /\ (∀ d, a.dst = some d -> d ∈ ZDG b -> ancB M j i = true) /\ (∀ d, b.dst = some d -> d ∈ ZDG a -> ancB M j i = true) /\ (ZCF a.i = false -> ZCF b.i = false -> ZMJ b = false -> ancB M j i = true) := by
 simp only [ZMK, ZAc, ha, hb, Bool.and_eq_true] at h
 obtain ⟨h1, h2, h3, h4⟩ := h
 refine ⟨fun d hd hd' => ?_, fun d hd hm => ?_, fun d hd hm => ?_, fun hp hq hl => ?_⟩
 ·simp only [hd, hd', Nat.beq_refl] at h1; cases h1
 ·simp only [hd, Bool.or_eq_true, ZPH.2 hm] at h2
  rcases h2 with h2 | h2
  ·cases h2
  ·exact h2
 ·simp only [hd, Bool.or_eq_true, ZPH.2 hm] at h3
  rcases h3 with h3 | h3
  ·cases h3
  ·exact h3
 ·simpa [hp, hq, hl] using h4
section
variable {G : Ctx} {is : List IOp} {after : List (List Nat)} {r : Regs} {h : Heap} {n : Nat} {T : List Stp} {r' : Regs} {h' : Heap} {n' : Nat}
theorem ZSS (c : Checked is after) : ∀ i, i < is.length -> ∀ j, j < is.length -> ancB (masks after) i j = true -> j < i := by
 intro i
 induction i using Nat.strongRecOn with
 | _ i ih =>
  intro hi j hj ha
  have hc := ZBI (ZBI c.closed i (by rw [<- c.len]; exact hi)) j (by rw [<- c.len]; exact hj)
  simp only [ha, Bool.not_true, Bool.false_or] at hc
  split at hc
  ·rename_i js hjs
   obtain ⟨k, hk, hk2⟩ := List.any_eq_true.1 hc
   have hb := ZBI c.back i (by rw [<- c.len]; exact hi)
   rw [hjs] at hb
   have hki : k < i := of_decide_eq_true (List.all_eq_true.1 hb k hk)
   rw [Bool.or_eq_true] at hk2
   rcases hk2 with e | e
   ·exact Nat.eq_of_beq_eq_true e ▸ hki
   ·exact Nat.lt_trans (ih k hki (by omega) j hj e) hki
  ·cases hc
theorem ZQI {P : Program} {o : Oper} {z : List LV} (h : cI P o = some (.alloc z)) : ∃ ty zl, o.op = .alloc ty /\ ZB0 P ty = some zl /\ z = zl.map LV.v := by
 cases hop : o.op
 case alloc t =>
  simp only [cI, hop, Option.map_eq_some_iff] at h
  obtain ⟨zl, h1, h2⟩ := h
  cases h2
  exact ⟨t, zl, rfl, h1, rfl⟩
 all_goals (exfalso; unfold cI at h; simp only [hop] at h; (repeat' split at h) <;> first | (cases h; done) | contradiction | (simp at h; done) | (simp [Option.map_eq_some_iff] at h; done) | (simp_all; done))
theorem ZRu {z : List LV} (h : allV z = true) (ρ ρ' : Env) : z.map (LV.at ρ) = z.map (LV.at ρ') := by
 induction z with
 | nil => rfl
 | cons x z ih => cases x <;> first | (simp only [allV] at h; simp only [List.map_cons, ih h, LV.at]) | (simp [allV] at h)
theorem ZRv {z : List LV} (h : allV z = true) (ρ : Env) (D : Nat -> Prop) : ∀ x ∈ z, x.ok ρ D := by
 induction z with
 | nil => intro x hx; cases hx
 | cons x z ih =>
  intro y hy
  cases x <;> first | (simp only [allV] at h; rcases List.mem_cons.1 hy with rfl | hy; exact trivial; exact ih h y hy) | (simp [allV] at h)
theorem ZDe {is : List IOp} {i : Nat} (h : loB is i = true) : ∃ o d z, is[i]? = some o /\ o.guard = none /\ o.dst = some d /\ o.i = .alloc z /\ allV z = true /\ effB is i = true := by
 unfold loB at h
 split at h
 ·rename_i o ho
  have ho' : is[i]? = some o := by rw [<- ZAc]; exact ho
  unfold ZMJ at h
  split at h
  ·rename_i d z h1 h2 h3
   exact ⟨o, d, z, ho', h1, h2, h3, h, by simp [effB, ho, h3, ZCF]⟩
  ·cases h
 ·cases h
theorem ZNQ (t : Tr G is r h n T r' h' n') {i : Nat} (hl : loB is i = true) {o : IOp} {d : Nat} {z : List LV} (ho : is[i]? = some o) (hg : o.guard = none) (hi : o.i = .alloc z) :
  Xf T i = .o (.l (.p (Nf T n' i) 0 0 0)) /\ Hf T h' (i + 1) = (Nf T n' i, some (.st z)) :: Hf T h' i /\ Nf T n' (i + 1) = Nf T n' i + 1 := by
 obtain ⟨s, u, h1, h2, ⟨h3, h4⟩, h5, _⟩ := t.step i o ho
 rw [hg] at h3
 simp only [onR, Option.some.injEq] at h3
 rw [<- h3, hi] at h4
 simp only [evI] at h4
 obtain ⟨e1, e2, e3⟩ := h4
 exact ⟨e1.symm, by rw [h5, <- e2]; rfl, e3.symm⟩
theorem At.skip (t : Tr G is r h n T r' h' n') {listed : Array Bool} {a : Act} {w : World} {m : Nat} {ρ : Env} {φ : Nat -> List Nat} {β : Nat -> Nat} (A : At G is after r T h' n' listed a w m ρ φ β)
  (hm : m < is.length) (he : effB is m = false) : At G is after r T h' n' listed a w (m + 1) ρ φ β := by
 obtain ⟨e1, e2⟩ := t.same (by simp [ZCh]) m 1 (by omega) (fun k h1 h2 => (by have e : k = m := (by omega); rw [e]; exact he))
 have hlo : loB is m = false := by
  cases hq : loB is m with
  | false => rfl
  | true => obtain ⟨_, _, _, _, _, _, _, _, h⟩ := ZDe hq; rw [he] at h; cases h
 refine ⟨A.size, A.down, A.tmps, A.defers, by omega, fun i h1 h2 => ?_, fun i h1 h2 h3 => Nat.lt_succ_of_lt (A.eff2 i h1 h2 h3), by rw [e1, e2]; exact A.gm, fun i o h1 h2 h3 d h4 => ?_, fun x y h1 h2 => by rw [e2]; exact A.old x y h1 h2,
  fun i o z d h1 h2 h3 h4 h5 h6 => by rw [e1]; exact A.jk i o z d h1 h2 (by omega) h4 h5 h6, fun i j h1 h2 h3 h4 => A.jd i j h1 h2 (by omega) (by omega)⟩
 ·rcases Nat.lt_succ_iff_lt_or_eq.1 h2 with h3 | h3
  ·exact A.eff1 i h1 h3
  ·subst h3; rw [he] at h1; cases h1
 ·rw [e2]
  refine A.done i o h1 h2 (fun h5 => ?_) d h4
  have := h3 h5
  rcases Nat.lt_succ_iff_lt_or_eq.1 this with h6 | h6
  ·exact h6
  ·subst h6; rw [hlo] at h5; cases h5
theorem At.take (t : Tr G is r h n T r' h' n') {listed : Array Bool} {a : Act} {w : World} {m : Nat} {ρ : Env} {φ : Nat -> List Nat} {β : Nat -> Nat} (A : At G is after r T h' n' listed a w m ρ φ β)
  (hm : m < is.length) (hl : loB is m = true) (hli : listed.getD m false = true) : ∃ ρ' φ', At G is after r T h' n' listed a w (m + 1) ρ' φ' β := by
 obtain ⟨o, d, z, ho, hg, hd, hi, hz, he⟩ := ZDe hl
 obtain ⟨eX, eH, eN⟩ := ZNQ t hl (d := d) ho hg hi
 obtain ⟨ht, hb1, hb2, ⟨ty, hb3⟩, hb4⟩ := A.jk m o z d ho hl (Nat.le_refl _) hli hi hd
 let ρ' : Env := fun k => if k = Nf T n' m then { blk := β m, off := 0, cap := 1, nil := false } else ρ k
 let φ' : Nat -> List Nat := fun k => if k = Nf T n' m then [β m] else φ k
 have hρ : ∀ k, lt (Nf T n' m) k -> ρ' k = ρ k := fun k hk => by simp only [lt] at hk; simp [ρ', Nat.ne_of_lt hk]
 have hup : ∀ k, lt (Nf T n' m) k -> lt (Nf T n' m + 1) k := fun k hk => Nat.lt_succ_of_lt hk
 have hgm : GM G ((Nf T n' m, some (.st z)) :: Hf T h' m) (lt (Nf T n' m + 1)) ρ' φ' w := by
  refine GM.put A.gm (Nf T n' m) (.st z) [β m] hρ hup (Nat.lt_succ_self _) (fun _ _ _ _ _ _ => rfl) ⟨by simp [ρ'], by simp [ρ'], by simp [ρ'], ⟨ty, ?_⟩, ZRv hz _ _⟩ (fun b hb => by simp at hb; subst hb; exact hb1)
   (fun k e hk hne b hb hb' => ?_) (fun _ b hb => by simp at hb; subst hb; exact .inr hb2) A.gm.frm (Nat.le_refl _)
  ·rw [show (ρ' (Nf T n' m)).blk = β m by simp [ρ'], hb3, ZRu hz]
  ·simp at hb'; subst hb'; exact hb4 k e hk hb
 refine ⟨ρ', φ', A.size, A.down, A.tmps, A.defers, by omega, fun i h1 h2 => ?_, fun i h1 h2 h3 => Nat.lt_succ_of_lt (A.eff2 i h1 h2 h3), by rw [eH, eN]; exact hgm, fun i o' h1 h2 h3 d' h4 => ?_, fun x y h1 h2 => ?_, fun i o' z' d' h1 h2 h3 h4 h5 h6 => ?_,
  fun i j h1 h2 h3 h4 => A.jd i j h1 h2 (by omega) (by omega)⟩
 ·rcases Nat.lt_succ_iff_lt_or_eq.1 h2 with h3 | h3
  ·exact A.eff1 i h1 h3
  ·subst h3; exact hli
 ·rw [eN]
  by_cases him : i = m
  ·subst him
   rw [ho] at h1; cases h1
   rw [hd] at h4; cases h4
   rw [eX]
   refine ⟨?_, Nat.lt_succ_self _⟩
   rw [ht]
   simp [SV.at, AV.at, LV.at, ρ', adr]
  ·obtain ⟨q1, q2⟩ := A.done i o' h1 h2 (fun h5 => by have := h3 h5; omega) d' h4
   exact ⟨by rw [q1, SV.at_mono hρ q2], SV.ok_mono hρ hup q2⟩
 ·obtain ⟨q1, q2⟩ := A.old x y h1 h2
  rw [eN]
  exact ⟨by rw [q1, SV.at_mono hρ q2], SV.ok_mono hρ hup q2⟩
 ·obtain ⟨q1, q2, q3, q4, q5⟩ := A.jk i o' z' d' h1 h2 (by omega) h4 h5 h6
  refine ⟨q1, q2, q3, q4, fun k e hk => ?_⟩
  rw [eH, ZAJ] at hk
  split at hk
  ·rename_i hh; subst hh
   simp only [φ', if_true, List.mem_singleton]
   exact A.jd i m h2 hl (by omega) (Nat.le_refl _) h4 hli (by omega)
  ·rename_i hh
   simp only [φ', if_neg (Ne.symm hh)]
   exact q5 k e hk
theorem At.absorb (t : Tr G is r h n T r' h' n') {listed : Array Bool} {a : Act} {w : World} {β : Nat -> Nat} : ∀ (d m : Nat) (ρ : Env) (φ : Nat -> List Nat), At G is after r T h' n' listed a w m ρ φ β ->
  m + d <= is.length -> (∀ k, m <= k -> k < m + d -> effB is k = true -> loB is k = true /\ listed.getD k false = true) -> ∃ ρ' φ', At G is after r T h' n' listed a w (m + d) ρ' φ' β
 | 0, m, ρ, φ, A, _, _ => ⟨ρ, φ, A⟩
 | d + 1, m, ρ, φ, A, hm, hk => by
  have go : ∀ ρ2 φ2, At G is after r T h' n' listed a w (m + 1) ρ2 φ2 β -> ∃ ρ' φ', At G is after r T h' n' listed a w (m + (d + 1)) ρ' φ' β := fun ρ2 φ2 A2 => by
   have := At.absorb t d (m + 1) ρ2 φ2 A2 (by omega) (fun k h1 h2 h3 => hk k (by omega) (by omega) h3)
   rwa [show m + 1 + d = m + (d + 1) by omega] at this
  cases he : effB is m with
  | false => exact go ρ φ (A.skip t (by omega) he)
  | true =>
   obtain ⟨h1, h2⟩ := hk m (Nat.le_refl _) (by omega) he
   obtain ⟨ρ2, φ2, A2⟩ := A.take t (by omega) h1 h2
   exact go ρ2 φ2 A2
def anch (G : Ctx) (h : Heap) (φ : Nat -> List Nat) (ρ : Env) (w : World) : Ctx := { G with w0 := w, F0 := Own h φ, R0 := fun b => ∃ k e, hget h k = some e /\ b ∈ φ k, ρ0 := ρ, A := 0 }
theorem GM.anchor {G : Ctx} {h : Heap} {D : Nat -> Prop} {ρ : Env} {φ : Nat -> List Nat} {w : World} (g : GM G h D ρ φ w) : GM (anch G h φ ρ w) h D ρ φ w :=
 ⟨g.hm, fun k hk => absurd hk (Nat.not_lt_zero _), fun k e hk ho b hb => .inl ⟨k, e, hk, ho, hb⟩, ⟨Nat.le_refl _, fun _ _ _ => rfl, rfl, rfl, rfl⟩, fun k e hk b hb => .inl ⟨k, e, hk, hb⟩, g.glob, g.ownGlob⟩
theorem GM.back {G : Ctx} {h h2 : Heap} {D D2 : Nat -> Prop} {ρ ρ2 : Env} {φ φ2 : Nat -> List Nat} {w w2 : World} (g : GM G h D ρ φ w) (g2 : GM (anch G h φ ρ w) h2 D2 ρ2 φ2 w2) (hρ : ∀ k, D k -> ρ2 k = ρ k) (hD : ∀ k, D k -> D2 k) :
  GM G h2 D2 ρ2 φ2 w2 /\ w.heap.size <= w2.heap.size /\ ∀ b, b < w.heap.size -> (∀ k e, hget h k = some e -> b ∉ φ k) -> w2.heap[b]? = w.heap[b]? /\ ∀ k e, hget h2 k = some e -> b ∉ φ2 k := by
 have own : ∀ b, Own h φ b -> G.F0 b \/ G.w0.heap.size <= b := fun b ⟨k, e, hk, ho, hb⟩ => g.ow k e hk ho b hb
 have hsz : w.heap.size <= w2.heap.size := g2.frm.size
 refine ⟨⟨g2.hm, fun k hk => ⟨hD _ (g.an k hk).1, by rw [hρ k (g.an k hk).1]; exact (g.an k hk).2⟩, fun k e hk ho b hb => ?_, ⟨Nat.le_trans g.frm.size hsz, fun b hb hn => ?_, ?_, ?_, ?_⟩, fun k e hk b hb => ?_, g.gb⟩, hsz, fun b hb hno => ⟨?_, fun k e hk hb2 => ?_⟩⟩
 ·rcases g2.ow k e hk ho b hb with h1 | h1
  ·exact own b h1
  ·exact .inr (Nat.le_trans g.frm.size h1)
 ·rw [g2.frm.blk b (Nat.lt_of_lt_of_le hb g.frm.size) fun ho => ?_]
  ·exact g.frm.blk b hb hn
  ·rcases own b ho with h1 | h1
   ·exact hn h1
   ·omega
 ·rw [g2.frm.os]; exact g.frm.os
 ·rw [g2.frm.tape]; exact g.frm.tape
 ·rw [g2.frm.output]; exact g.frm.output
 ·rcases g2.fx k e hk b hb with ⟨k0, e0, h1, h3⟩ | h1 | h1
  ·exact g.fx k0 e0 h1 b h3
  ·exact .inr (own b h1)
  ·exact .inr (.inr (Nat.le_trans g.frm.size h1))
 ·exact g2.frm.blk b hb fun ⟨k, e, h1, h3, h4⟩ => hno k e h1 h4
 ·rcases g2.fx k e hk b hb2 with ⟨k0, e0, h1, h3⟩ | ⟨k0, e0, h1, _, h3⟩ | h1
  ·exact hno k0 e0 h1 h3
  ·exact hno k0 e0 h1 h3
  ·have h1 : w.heap.size <= b := h1
   omega
theorem ZLb {G : Ctx} {o : IOp} {r : Regs} {h : Heap} {n : Nat} {on : Bool} {x : SV} {u : Heap} {n' : Nat} (hs : ZCV G o r h n on x u n') (h0 : Heap) (φ : Nat -> List Nat) (ρ : Env) (w : World) : ZCV (anch G h0 φ ρ w) o r h n on x u n' := by
 have e1 : CallP (anch G h0 φ ρ w) = CallP G := by funext f xs h n K; rw [ZCd, ZCd]; rfl
 have e2 : InvP (anch G h0 φ ρ w) = InvP G := by funext f nm xs h n K; rw [ZD9, ZD9]; rfl
 have e3 : EscR (anch G h0 φ ρ w) = EscR G := by funext op r h n K; unfold EscR; rw [ZCw, ZCw]; rfl
 unfold ZCV
 rw [e1, e2, e3]
 exact hs
theorem ZI4 {G : Ctx} {ops : Array Oper} {o : Oper} {io : IOp} (hc : cOp G.P G.N ops o = some io) {r : Regs} {h : Heap} {n : Nat} {ρ : Env} {φ : Nat -> List Nat} {a : Act} {w : World} (g : GM G h (lt n) ρ φ w)
  (hr : RM r (lt n) ρ a) {on : Bool} {x : SV} {u : Heap} {n' : Nat} (hs : ZCV G io r h n on x u n') {Q : Exit -> Act -> World -> Prop} (next : Act -> World -> Prop)
  (hn : ∀ ρ' φ' w', n <= n' -> (∀ k, lt n k -> ρ' k = ρ k) -> GM G (u ++ h) (lt n') ρ' φ' w' -> x.ok ρ' (lt n') -> w.heap.size <= w'.heap.size ->
   (∀ b, b < w.heap.size -> (∀ k e, hget h k = some e -> b ∉ φ k) -> w'.heap[b]? = w.heap[b]? /\ ∀ k e, hget (u ++ h) k = some e -> b ∉ φ' k) -> next (a.put o.dst (x.at ρ')) w') :
  if Region.wanted o (yielded ops a.tmps) then o.wp G.P a w next Q \/ (o.asks G.P a w /\ LetsOut Q) else next (a.put o.dst undef) w :=
 ZRt (G := anch G h φ ρ w) hc g.anchor hr (ZLb hs h φ ρ w) next fun ρ' φ' w' h1 h2 h3 h4 => by
  obtain ⟨k1, k2, k3⟩ := g.back h3 h2 fun k hk => Nat.lt_of_lt_of_le hk h1
  exact hn ρ' φ' w' h1 h2 k1 h4 k2 k3
theorem At.step (c : Checked is after) (t : Tr G is r h n T r' h' n')
  (hob : ∀ i m, (i, m) ∈ ZKP is (masks after) -> ∀ s, nth T i = some s -> s.on = true -> ZCh s.o.i = true -> evI (CallP G) (InvP G) (EscR G) s.o.i s.r (Hf T h' m) (Nf T n' m) fun x u n2 => x = s.x /\ u = [] /\ n2 = Nf T n' m)
  {ops : Array Oper} {i : Nat} {o : Oper} {io : IOp} (hc : cOp G.P G.N ops o = some io) (hio : is[i]? = some io)
  {listed : Array Bool} {a : Act} {w : World} {m : Nat} {ρ : Env} {φ : Nat -> List Nat} {β : Nat -> Nat} (A : At G is after r T h' n' listed a w m ρ φ β)
  (hni : listed.getD i false = false) (hrd : ∀ js, nth after i = some js -> ∀ j ∈ js, listed.getD j false = true) {Q : Exit -> Act -> World -> Prop} (next : Act -> World -> Prop)
  (hn : ∀ a w m ρ φ β, At G is after r T h' n' (listed.setIfInBounds i true) a w m ρ φ β -> next a w) :
  if Region.wanted o (yielded ops a.tmps) then o.wp G.P a w next Q \/ (o.asks G.P a w /\ LetsOut Q) else next (a.put o.dst undef) w := by
 have hi : i < is.length := (List.getElem?_eq_some_iff.1 hio).1
 have hdr : ∀ {j : Nat} {oj : IOp}, is[j]? = some oj -> ZCh oj.i = true := fun _ => rfl
 obtain ⟨s, u, hs, hso, hstep, hH, hR⟩ := t.step i io hio
 have hX : Xf T i = s.x := by simp [Xf, hs]
 have hRi : Rf T r' i = s.r := by simp [Rf, hs]
 -- what stands ahead of i is done; what stands behind it, isn't
 have up : ∀ j, j < is.length -> ancB (masks after) i j = true -> listed.getD j false = true := ZMN c (L := fun j => listed.getD j false = true) i hi (fun k _ hk js hjs j hj => A.down k js hk hjs j hj) hrd
 have dn : ∀ j, j < is.length -> listed.getD j false = true -> ancB (masks after) j i = false := fun j hj hl => by
  cases hq : ancB (masks after) j i with
  | false => rfl
  | true =>
   have := ZMN c (L := fun j => listed.getD j false = true) j hj (fun k _ hk js hjs j hj => A.down k js hk hjs j hj) (fun js hjs k hk => A.down j js hl hjs k hk) i hi hq
   simp [hni] at this
 have hpr : ∀ {j k : Nat} {oj ok : IOp}, is[j]? = some oj -> is[k]? = some ok -> j < k -> _ := fun {j k oj ok} hj hk hjk => ZLa hj hk (c.pair j k hjk (List.getElem?_eq_some_iff.1 hk).1)
 have hsz := A.size
 have hii : i < listed.size := by omega
 obtain ⟨hdst, hfit⟩ := ZLZ hc
 have hds : ∀ (j : Nat) (oj : IOp) d, is[j]? = some oj -> i ≠ j -> oj.dst = some d -> o.dst ≠ some d := fun j oj d hj e hd hd' => by
  rw [<- hdst] at hd'
  rcases Nat.lt_or_gt_of_ne e with h4 | h4
  ·exact (hpr hio hj h4).1 d hd' hd
  ·exact (hpr hj hio h4).1 d hd hd'
 have hputne : ∀ (d : Nat) (v : Value) , o.dst ≠ some d -> (a.put o.dst v).tmps[d]? = a.tmps[d]? := fun d v hne => by
  cases hd : o.dst with
  | none => rfl
  | some e =>
   have : e ≠ d := fun he => hne (by rw [hd, he])
   simp only [Act.put]
   rw [Array.getElem?_setIfInBounds_ne this]
 have hputeq : ∀ (d : Nat) (v : Value), o.dst = some d -> (a.put o.dst v).tmps[d]? = some v := fun d v hd => by
  simp only [Act.put, hd]
  rw [hd] at hfit
  have : d < a.tmps.size := by rw [A.tmps]; simpa [ZLL] using hfit
  simp [this]
 have hdown : ∀ j js, (listed.setIfInBounds i true).getD j false = true -> nth after j = some js -> ∀ k ∈ js, (listed.setIfInBounds i true).getD k false = true := fun j js hl hjs k hk => by
  rw [ZA6 _ _ _ hii] at hl ⊢
  by_cases e : i = k
  ·simp [e]
  ·simp only [if_neg e]
   by_cases e2 : i = j
   ·subst e2; exact hrd js hjs k hk
   ·rw [if_neg e2] at hl; exact A.down j js hl hjs k hk
 have hli : ∀ j, (listed.setIfInBounds i true).getD j false = true -> i ≠ j -> listed.getD j false = true := fun j hl e => by rw [ZA6 _ _ _ hii, if_neg e] at hl; exact hl
 have hlo' : ∀ j, listed.getD j false = true -> (listed.setIfInBounds i true).getD j false = true := fun j hl => by rw [ZA6 _ _ _ hii]; split <;> simp [hl]
 cases hlo : loB is i with
 | true =>
  -- it is made ahead of its place
  obtain ⟨o2, d, z, ho2, hg0, hd, hi0, hz, he⟩ := ZDe hlo
  rw [hio] at ho2; cases ho2
  have hmi : m <= i := by
   apply Classical.byContradiction
   intro hh
   have := A.eff1 i he (by omega)
   rw [hni] at this; cases this
  obtain ⟨ty, zl, hop, hzo, hzz⟩ : ∃ ty zl, o.op = .alloc ty /\ ZB0 G.P ty = some zl /\ z = zl.map LV.v := by
   have hci : cI G.P o = some io.i := by
    unfold cOp at hc
    split at hc
    ·simp only [Option.some.injEq] at hc; subst hc; assumption
    ·cases hc
   rw [hi0] at hci
   exact ZQI hci
  obtain ⟨ti, zv, hti, hz1, hz2, hz3⟩ := ZBJ hzo
  have hgd : o.guard = none := by
   unfold cOp at hc
   split at hc
   ·rename_i gg _ hgg _
    simp only [Option.some.injEq] at hc; subst hc
    simp only at hg0
    subst hg0
    cases hq : o.guard with
    | none => rfl
    | some jw =>
     rw [hq] at hgg
     obtain ⟨j, want⟩ := jw
     simp only [cG] at hgg
     split at hgg <;> cases hgg
   ·cases hc
  rw [if_pos (by simp [Region.wanted, hgd])]
  refine .inl ?_
  have hrun : (execOp a.eval o).run G.P w = .ok (.value (.pointer (some ⟨w.heap.size, 0, none⟩))) (w.alloc (.cells zv.cells ty)) := by
   simp only [execOp, hop, Instr.alloc, Sem.run_bind, ZBm hti hz1, Result.andThen_ok, ZFp, Sem.run_pure]
  unfold Oper.wp
  rw [hrun]
  have hpush : ∀ b, b < w.heap.size -> (w.alloc (.cells zv.cells ty)).heap[b]? = w.heap[b]? := fun b hb => ZDC w _ b hb
  have hsize : (w.alloc (.cells zv.cells ty)).heap.size = w.heap.size + 1 := by simp
  show next (a.put o.dst (.pointer (some ⟨w.heap.size, 0, none⟩))) (w.alloc (.cells zv.cells ty))
  have hgm : GM G (Hf T h' m) (lt (Nf T n' m)) ρ φ (w.alloc (.cells zv.cells ty)) := GM.mono A.gm (fun _ _ => rfl) (fun _ hk => hk) (fun k e hk b hb => hpush b (A.gm.hm.sz k e hk b hb)) (A.gm.frm.alloc _) (by rw [hsize]; exact Nat.le_succ _)
  have hdo : o.dst = some d := by rw [<- hdst]; exact hd
  refine hn _ _ m ρ φ (fun k => if k = i then w.heap.size else β k) ⟨by simp [hsz], hdown, by rw [Act.put_size]; exact A.tmps, by rw [Act.put_defers']; exact A.defers, A.le, fun j h1 h2 => hlo' j (A.eff1 j h1 h2), fun j h1 h2 h3 => ?_, hgm,
   fun j oj hj hl hjl d' hd' => ?_, fun d' y hy hno => ?_, fun j oj z' d' hj hjl hmj hl hji hd' => ?_, fun j k hj hk hmj hmk hlj hlk hne => ?_⟩
  ·by_cases e : i = j
   ·subst e; rw [hlo] at h2; cases h2
   ·exact A.eff2 j h1 h2 (hli j h3 e)
  ·by_cases e : i = j
   ·subst e; have := hjl hlo; omega
   ·rw [hputne d' _ (hds j oj d' hj e hd')]
    exact A.done j oj hj (hli j hl e) hjl d' hd'
  ·rw [hputne d' _ (fun hd' => hno i io hio (by rw [ZA6 _ _ _ hii]; simp) (by rw [hdst]; exact hd'))]
   exact A.old d' y hy fun j oj hj hl => hno j oj hj (hlo' j hl)
  ·by_cases e : i = j
   ·subst e
    rw [hio] at hj; cases hj
    rw [hi0] at hji; cases hji
    simp only [if_true]
    refine ⟨hputeq d' _ (by rw [<- hdst]; exact hd'), by rw [hsize]; exact Nat.lt_succ_self _, A.gm.frm.size, ⟨ty, ?_⟩, fun k e hk hb => ?_⟩
    ·rw [ZBg]
     subst hzz
     simp only [List.map_map, Function.comp_def, LV.at, List.map_id', <- hz3]
    ·exact Nat.lt_irrefl _ (A.gm.hm.sz k e hk _ hb)
   ·simp only [if_neg (Ne.symm e)]
    obtain ⟨q1, q2, q3, ⟨t4, q4⟩, q5⟩ := A.jk j oj z' d' hj hjl hmj (hli j hl e) hji hd'
    refine ⟨by rw [hputne d' _ (hds j oj d' hj e hd')]; exact q1, by rw [hsize]; exact Nat.lt_succ_of_lt q2, q3, ⟨t4, by rw [hpush _ q2]; exact q4⟩, q5⟩
  ·have old : ∀ j, loB is j = true -> m <= j -> listed.getD j false = true -> β j < w.heap.size := fun j h1 h2 h3 => by
    obtain ⟨o', d', z', h4, _, h5, h6, _, _⟩ := ZDe h1
    exact (A.jk j o' z' d' h4 h1 h2 h3 h6 h5).2.1
   by_cases e1 : j = i
   ·subst e1
    have := old k hk hmk (hli k hlk hne)
    simp only [if_true, if_neg (Ne.symm hne)]
    omega
   ·by_cases e2 : k = i
    ·subst e2
     have := old j hj hmj (hli j hlj (Ne.symm e1))
     simp only [if_true, if_neg e1]
     omega
    ·simp only [if_neg e1, if_neg e2]
     exact A.jd j k hj hk hmj hmk (hli j hlj (Ne.symm e1)) (hli k hlk (Ne.symm e2)) hne
 | false =>
 -- what was made ahead, and is wanted, is taken in
 have take : ∀ M, m <= M -> M <= is.length -> (∀ k, m <= k -> k < M -> effB is k = true -> listed.getD k false = true) -> ∃ ρ' φ', At G is after r T h' n' listed a w M ρ' φ' β := fun M h1 h2 h3 => by
  have := A.absorb t (M - m) m ρ φ (by omega) (fun k h4 h5 h6 => by
   have hl := h3 k h4 (by omega) h6
   refine ⟨?_, hl⟩
   cases hq : loB is k with
   | true => rfl
   | false => have := A.eff2 k h6 hq hl; omega)
  rwa [show m + (M - m) = M by omega] at this
 obtain ⟨M, ρ1, φ1, A1, hMi, hML, hMe⟩ : ∃ M ρ1 φ1, At G is after r T h' n' listed a w M ρ1 φ1 β /\ (ZCF io.i = false -> M = i) /\ (∀ j, loB is j = true -> ancB (masks after) i j = true -> j < M) /\ (ZCF io.i = false -> ∀ k, effB is k = true -> k < i -> listed.getD k false = true) := by
  have lo : ∀ j, loB is j = true -> ancB (masks after) i j = true -> j < is.length /\ ∀ k, k <= j -> effB is k = true -> listed.getD k false = true := fun j h1 h2 => by
   obtain ⟨oj, _, _, hoj, _⟩ := ZDe h1
   have hj := (List.getElem?_eq_some_iff.1 hoj).1
   refine ⟨hj, fun k hk he => ?_⟩
   rcases Nat.lt_or_eq_of_le hk with h3 | h3
   ·have hh := ZBI c.loose j hj
    simp only [h1, Bool.not_true, Bool.false_or] at hh
    have hh := ZBI hh i hi
    simp only [h2, Bool.not_true, Bool.false_or] at hh
    have hh := ZBI hh k h3
    simp only [he, Bool.not_true, Bool.false_or] at hh
    exact up k (by omega) hh
   ·subst h3; exact up k hj h2
  cases hp : ZCF io.i with
  | false =>
   have hei : effB is i = true := by simp [effB, ZAc, hio, hp]
   have hmi : m <= i := by
    apply Classical.byContradiction
    intro hh
    have := A.eff1 i hei (by omega)
    rw [hni] at this; cases this
   have hall : ∀ k, effB is k = true -> k < i -> listed.getD k false = true := fun k h1 h2 => by
    have hko : is[k]? = some is[k] := List.getElem?_eq_getElem (by omega)
    have hpk : ZCF is[k].i = false := by simpa [effB, ZAc, hko] using h1
    exact up k (by omega) ((hpr hko hio h2).2.2.2 hpk hp (by simpa [loB, ZAc, hio] using hlo))
   obtain ⟨ρ1, φ1, A1⟩ := take i hmi (by omega) (fun k _ h2 h3 => hall k h3 h2)
   refine ⟨i, ρ1, φ1, A1, fun _ => rfl, fun j h1 h2 => ?_, fun _ => hall⟩
   -- what stands ahead of i stands ahead of it in the text, too
   obtain ⟨hjl, _⟩ := lo j h1 h2
   exact ZSS c i hi j hjl h2
  | true =>
   -- the last one that is wanted
   obtain ⟨M0, hM0, hM1⟩ : ∃ M0, M0 <= is.length /\ (∀ j, loB is j = true -> ancB (masks after) i j = true -> j < M0) /\ ∀ k, k < M0 -> effB is k = true -> listed.getD k false = true := by
    have go : ∀ q, q <= is.length -> ∃ M0, M0 <= is.length /\ (∀ j, j < q -> loB is j = true -> ancB (masks after) i j = true -> j < M0) /\ ∀ k, k < M0 -> effB is k = true -> listed.getD k false = true := by
     intro q
     induction q with
     | zero => exact fun _ => ⟨0, Nat.zero_le _, fun j h => absurd h (Nat.not_lt_zero _), fun k h => absurd h (Nat.not_lt_zero _)⟩
     | succ q ih =>
      intro hq
      obtain ⟨M0, h1, h2, h3⟩ := ih (by omega)
      by_cases hw : loB is q = true /\ ancB (masks after) i q = true
      ·obtain ⟨h4, h5⟩ := lo q hw.1 hw.2
       by_cases hM : M0 <= q + 1
       ·exact ⟨q + 1, by omega, fun j hj _ _ => by omega, fun k hk he => h5 k (by omega) he⟩
       ·exact ⟨M0, h1, fun j hj h6 h7 => by omega, h3⟩
      ·refine ⟨M0, h1, fun j hj h6 h7 => ?_, h3⟩
       rcases Nat.lt_succ_iff_lt_or_eq.1 hj with h8 | h8
       ·exact h2 j h8 h6 h7
       ·subst h8; exact absurd ⟨h6, h7⟩ hw
    obtain ⟨M0, h1, h2, h3⟩ := go is.length (Nat.le_refl _)
    exact ⟨M0, h1, fun j h4 h5 => h2 j (lo j h4 h5).1 h4 h5, h3⟩
   by_cases hmM : m <= M0
   ·obtain ⟨ρ1, φ1, A1⟩ := take M0 hmM hM0 (fun k _ h2 h3 => hM1.2 k h2 h3)
    exact ⟨M0, ρ1, φ1, A1, fun h => absurd h (by decide), hM1.1, fun h => absurd h (by decide)⟩
   ·exact ⟨m, ρ, φ, A, fun h => absurd h (by decide), fun j h1 h2 => (by have := hM1.1 j h1 h2; omega), fun h => absurd h (by decide)⟩
 clear take
 -- what it looks at
 have hr : RM (restr (ZDG io) (Rf T r' i)) (lt (Nf T n' M)) ρ1 a := by
  intro d y hy
  rw [ZBw] at hy
  split at hy
  ·rename_i hmem
   rcases t.val i (by omega) d y hy with ⟨j, oj, h1, h2, h3, rfl⟩ | ⟨h1, h2⟩
   ·have hanc := (hpr h2 hio h1).2.1 d h3 hmem
    exact A1.done j oj h2 (up j (by omega) hanc) (fun h => hML j h hanc) d h3
   ·refine A1.old d y h2 fun k ok hk hl hd => ?_
    have hkl := (List.getElem?_eq_some_iff.1 hk).1
    rcases Nat.lt_trichotomy k i with h4 | h4 | h4
    ·exact h1 k ok h4 hk hd
    ·subst h4; simp [hni] at hl
    ·have := (hpr hio hk h4).2.2.1 d hd hmem
     rw [dn k hkl hl] at this; cases this
  ·cases hy
 have fin : ∀ (m' : Nat) (ρ' : Env) (φ' : Nat -> List Nat) (w' : World), m' <= is.length -> M <= m' -> (∀ k, lt (Nf T n' M) k -> ρ' k = ρ1 k) -> Nf T n' M <= Nf T n' m' -> GM G (Hf T h' m') (lt (Nf T n' m')) ρ' φ' w' -> (Xf T i).ok ρ' (lt (Nf T n' m')) ->
   w.heap.size <= w'.heap.size -> (∀ b, b < w.heap.size -> (∀ k e, hget (Hf T h' M) k = some e -> b ∉ φ1 k) -> w'.heap[b]? = w.heap[b]? /\ ∀ k e, hget (Hf T h' m') k = some e -> b ∉ φ' k) ->
   (∀ j, effB is j = true -> j < m' -> (listed.setIfInBounds i true).getD j false = true) -> (∀ j, effB is j = true -> loB is j = false -> (listed.setIfInBounds i true).getD j false = true -> j < m') -> (∀ j, loB is j = true -> j < m' -> j < M) ->
   next (a.put o.dst ((Xf T i).at ρ')) w' := by
  intro m' ρ' φ' w' hm' hMm hρ hnn hg hx hszw hjk heff1 heff2 hlm
  have keep : ∀ (d : Nat) (y : SV), o.dst ≠ some d -> a.tmps[d]? = some (y.at ρ1) /\ y.ok ρ1 (lt (Nf T n' M)) -> (a.put o.dst ((Xf T i).at ρ')).tmps[d]? = some (y.at ρ') /\ y.ok ρ' (lt (Nf T n' m')) := by
   intro d y hne ⟨h1, h2⟩
   refine ⟨?_, SV.ok_mono hρ (fun k hk => Nat.lt_of_lt_of_le hk hnn) h2⟩
   rw [SV.at_mono hρ h2, hputne d _ hne]
   exact h1
  refine hn _ _ m' ρ' φ' β ⟨by simp [hsz], hdown, by rw [Act.put_size]; exact A.tmps, by rw [Act.put_defers']; exact A.defers, hm', heff1, heff2, hg, fun j oj hj hl hjl d hd => ?_, fun d y hy hno => ?_, fun j oj z' d' hj hjl hmj hl hji hd' => ?_, fun j k hj hk hmj hmk hlj hlk hne => ?_⟩
  ·by_cases e : i = j
   ·subst e
    rw [hio] at hj; cases hj
    exact ⟨hputeq d _ (by rw [<- hdst]; exact hd), hx⟩
   ·exact keep d _ (hds j oj d hj e hd) (A1.done j oj hj (hli j hl e) (fun h => hlm j h (hjl h)) d hd)
  ·refine keep d y (fun hd' => hno i io hio (by rw [ZA6 _ _ _ hii]; simp) (by rw [hdst]; exact hd')) (A1.old d y hy fun j oj hj hl => hno j oj hj (hlo' j hl))
  ·have e : i ≠ j := fun e => by subst e; rw [hlo] at hjl; cases hjl
   obtain ⟨q1, q2, q3, ⟨t4, q4⟩, q5⟩ := A1.jk j oj z' d' hj hjl (by omega) (hli j hl e) hji hd'
   obtain ⟨q6, q7⟩ := hjk _ q2 q5
   exact ⟨by rw [hputne d' _ (hds j oj d' hj e hd')]; exact q1, Nat.lt_of_lt_of_le q2 hszw, q3, ⟨t4, by rw [q6]; exact q4⟩, q7⟩
  ·have e1 : i ≠ j := fun e => by subst e; rw [hlo] at hj; cases hj
   have e2 : i ≠ k := fun e => by subst e; rw [hlo] at hk; cases hk
   exact A1.jd j k hj hk (by omega) (by omega) (hli j hlj e1) (hli k hlk e2) hne
 cases hp : ZCF io.i with
 | false =>
  -- it changes something: all that did so ahead of it is done, nothing behind it
  have hei : effB is i = true := by simp [effB, ZAc, hio, hp]
  obtain rfl := hMi hp
  refine ZI4 hc A1.gm hr (hstep.congr (hdr hio) fun d hd => by rw [ZBw, if_pos hd]) next fun ρ' φ' w' h1 h2 h3 h4 h5 h6 => ?_
  rw [<- hH] at h3 h6
  refine fin (M + 1) ρ' φ' w' (by omega) (Nat.le_succ _) h2 h1 h3 h4 h5 h6 (fun j hj hjm => ?_) (fun j hj hjl hl => ?_) (fun j hj hjm => ?_)
  ·rw [ZA6 _ _ _ hii]
   by_cases e : M = j
   ·simp [e]
   ·rw [if_neg e]; exact hMe hp j hj (by omega)
  ·by_cases e : M = j
   ·omega
   ·exact Nat.lt_succ_of_lt (A1.eff2 j hj hjl (hli j hl e))
  ·rcases Nat.lt_succ_iff_lt_or_eq.1 hjm with h7 | h7
   ·exact h7
   ·subst h7; rw [hlo] at hj; cases hj
 | true =>
  obtain ⟨rfl, hn1⟩ := hstep.pure (hdr hio) hp
  -- it comes to the same at M
  have hst : ZCV G io (Rf T r' i) (Hf T h' M) (Nf T n' M) s.on (Xf T i) [] (Nf T n' M) := by
   rw [hn1] at hstep
   refine ⟨hstep.1, ?_⟩
   have h2 := hstep.2
   cases hon : s.on with
   | false => rw [hon] at h2; exact ⟨h2.1, rfl, rfl⟩
   | true =>
    rw [hon] at h2
    simp only at h2 ⊢
    cases hf : ZCg io.i with
    | true => exact ZQa (hdr hio) hf h2 _ _ ⟨rfl, rfl, rfl⟩
    | false =>
     have hsn : ∀ k, k < is.length -> effB is k = true -> (match Nat.ble k i with | true => ancB (masks after) i k | false => ancB (masks after) k i) = false -> ∀ m', (m' = k \/ m' = k + 1) -> Hf T h' m' = Hf T h' M -> Nf T n' m' = Nf T n' M ->
       evI (CallP G) (InvP G) (EscR G) io.i (Rf T r' i) (Hf T h' M) (Nf T n' M) fun x' u' m2 => x' = Xf T i /\ u' = [] /\ m2 = Nf T n' M := by
      intro k hk hek hun m' hm' e1 e2
      have hko : is[k]? = some is[k] := List.getElem?_eq_getElem hk
      have hpk : ZCF is[k].i = false := by simpa [effB, ZAc, hko] using hek
      have := hob i m' (by
       unfold ZKP
       refine List.mem_flatMap.2 ⟨i, List.mem_range.2 hi, ?_⟩
       simp only [ZAc, hio, hp, hf, Bool.not_false, Bool.and_self]
       refine List.mem_flatMap.2 ⟨k, List.mem_range.2 hk, ?_⟩
       simp only [hko, hpk]
       rw [hun]
       simp
       exact hm') s hs hon (by rw [hso]; exact hdr hio)
      rw [hso, e1, e2] at this
      rw [hX, hRi]
      exact this
     by_cases him : i <= M
     ·rcases ZQb (effB is) i M him with h3 | ⟨k, h3, h4, h5, h6⟩
      ·obtain ⟨e1, e2⟩ := t.same (by simp [ZCh]) i (M - i) (by have := A1.le; omega) (fun k h4 h5 => h3 k h4 (by omega))
       rw [show i + (M - i) = M by omega] at e1 e2
       rw [e1, e2]; exact h2
      ·have hkl : k < is.length := by have := A1.le; omega
       obtain ⟨e1, e2⟩ := t.same (by simp [ZCh]) (k + 1) (M - (k + 1)) (by have := A1.le; omega) (fun j h7 h8 => h6 j (by omega) (by omega))
       rw [show k + 1 + (M - (k + 1)) = M by omega] at e1 e2
       have hki : k ≠ i := by
        intro e; subst e
        simp [effB, ZAc, hio, hp] at h5
       have hb : Nat.ble k i = false := by
        cases hq : Nat.ble k i with
        | false => rfl
        | true => have := Nat.le_of_ble_eq_true hq; omega
       refine hsn k hkl h5 ?_ (k + 1) (.inr rfl) e1.symm e2.symm
       rw [hb]
       exact dn k hkl (A1.eff1 k h5 h4)
     ·rcases ZPG (effB is) M (i - M) with h3 | ⟨k, h3, h4, h5, h6⟩
      ·obtain ⟨e1, e2⟩ := t.same (by simp [ZCh]) M (i - M) (by omega) h3
       rw [show M + (i - M) = i by omega] at e1 e2
       rw [<- e1, <- e2]; exact h2
      ·have hkl : k < is.length := by omega
       obtain ⟨e1, e2⟩ := t.same (by simp [ZCh]) M (k - M) (by omega) (fun j h7 h8 => h6 j h7 (by omega))
       rw [show M + (k - M) = k by omega] at e1 e2
       have hb : Nat.ble k i = true := Nat.ble_eq_true_of_le (by omega)
       refine hsn k hkl h5 ?_ k (.inl rfl) e1 e2
       rw [hb]
       cases hq : ancB (masks after) i k with
       | false => rfl
       | true =>
        have hlk := up k hkl hq
        cases hk : loB is k with
        | true => have := hML k hk hq; omega
        | false => have := A1.eff2 k h5 hk hlk; omega
  refine ZI4 hc A1.gm hr (hst.congr (hdr hio) fun d hd => by rw [ZBw, if_pos hd]) next fun ρ' φ' w' h1 h2 h3 h4 h5 h6 => ?_
  refine fin M ρ' φ' w' A1.le (Nat.le_refl _) h2 h1 (by simpa using h3) h4 h5 (by simpa using h6) (fun j hj hjm => hlo' j (A1.eff1 j hj hjm)) (fun j hj hjl hl => ?_) (fun j _ h => h)
  by_cases e : i = j
  ·subst e; simp [effB, ZAc, hio, hp] at hj
  ·exact A1.eff2 j hj hjl (hli j hl e)
end
section
variable {G : Ctx} {is : List IOp} {after : List (List Nat)} {r : Regs} {h : Heap} {n : Nat} {T : List Stp} {r' : Regs} {h' : Heap} {n' : Nat}
theorem ZC0 {ops : Array Oper} {listed : Array Bool} {i : Nat} (hm : i ∈ Region.ready .any ops listed) : ∃ o, ops[i]? = some o /\ listed.getD i true = false /\ ∀ j ∈ ZCI o, listed.getD j false = true := by
 unfold Region.ready at hm
 rw [List.mem_filter] at hm
 obtain ⟨h1, h2⟩ := hm
 rw [Bool.and_eq_true] at h2
 cases ho : ops[i]? with
 | none => simp [ho] at h2
 | some o =>
  refine ⟨o, rfl, by simpa using h2.1, fun j hj => ?_⟩
  have h3 := h2.2
  simp only [ho, Option.map_some, Option.getD_some] at h3
  rw [Array.all_eq_true'] at h3
  simp only [ZCI, List.mem_map, List.mem_filter] at hj
  obtain ⟨e, ⟨h4, h5⟩, rfl⟩ := hj
  have := h3 e (by simpa using h4)
  simpa [h5] using this
theorem ZI5 {ops : Array Oper} {listed : Array Bool} {i : Nat} {o : Oper} (ho : ops[i]? = some o) (hl : listed.getD i true = false) (ha : ∀ j ∈ ZCI o, listed.getD j false = true) : i ∈ Region.ready .any ops listed := by
 unfold Region.ready
 rw [List.mem_filter]
 refine ⟨List.mem_range.2 (Array.getElem?_eq_some_iff.1 ho).1, ?_⟩
 rw [Bool.and_eq_true]
 refine ⟨by simp [hl], ?_⟩
 simp only [ho, Option.map_some, Option.getD_some]
 rw [Array.all_eq_true']
 intro e he
 cases hb : Region.binds .any e with
 | false => rfl
 | true => simpa using ha e.on (by simp only [ZCI, List.mem_map, List.mem_filter]; exact ⟨e, ⟨by simpa using he, hb⟩, rfl⟩)
theorem ZDO {l : Array Bool} {i : Nat} (hi : i < l.size) : l.getD i true = l.getD i false := by
 simp [Array.getD_eq_getD_getElem?, hi]
theorem ZNR (c : Checked is after) (t : Tr G is r h n T r' h' n')
  (hob : ∀ i m, (i, m) ∈ ZKP is (masks after) -> ∀ s, nth T i = some s -> s.on = true -> ZCh s.o.i = true -> evI (CallP G) (InvP G) (EscR G) s.o.i s.r (Hf T h' m) (Nf T n' m) fun x u n2 => x = s.x /\ u = [] /\ n2 = Nf T n' m)
  {ops : Array Oper} (hc : cOps G.P G.N ops ops.toList = some is) (ha : ops.toList.map ZCI = after) {K : X -> Regs -> Heap -> Nat -> Prop} (hK : K .nrm r' h' n') :
  ∀ (fuel : Nat) (listed : Array Bool) (a : Act) (w : World), (∃ m ρ φ β, At G is after r T h' n' listed a w m ρ φ β) -> (List.range is.length).countP (fun i => !listed.getD i false) <= fuel -> wpAny G.P .any ops (QK G K) fuel listed a w := by
 obtain ⟨hlen, hget⟩ := ZFb hc
 have hlen' : is.length = ops.size := by simpa using hlen
 have hat : ∀ {i : Nat} {o : Oper}, ops[i]? = some o -> ∃ io, is[i]? = some io /\ cOp G.P G.N ops o = some io := fun {i o} ho => hget i o (by simpa using ho)
 have haf : ∀ {i : Nat} {o : Oper}, ops[i]? = some o -> nth after i = some (ZCI o) := fun {i o} ho => by
  rw [ZAc, <- ha]; simp [ho]
 -- all is done
 have fin : ∀ (listed : Array Bool) (a : Act) (w : World), (∃ m ρ φ β, At G is after r T h' n' listed a w m ρ φ β) -> Region.ready .any ops listed = [] -> QK G K .normal a w := by
  intro listed a w ⟨m0, ρ0, φ0, β, A0⟩ hr
  have all : ∀ i, i < is.length -> listed.getD i false = true := by
   intro i
   induction i using Nat.strongRecOn with
   | _ i ih =>
    intro hi
    cases hq : listed.getD i false with
    | true => rfl
    | false =>
     exfalso
     have ho : ops[i]? = some ops[i] := Array.getElem?_eq_getElem (by omega)
     have : i ∈ Region.ready .any ops listed := ZI5 ho (by rw [ZDO (by rw [A0.size]; exact hi)]; exact hq) fun j hj => by
      have hb := ZBI c.back i (by rw [<- c.len]; exact hi)
      rw [haf ho] at hb
      have hji : j < i := of_decide_eq_true (List.all_eq_true.1 hb j hj)
      exact ih j hji (by omega)
     rw [hr] at this; cases this
  obtain ⟨ρ, φ, A⟩ := A0.absorb t (is.length - m0) m0 ρ0 φ0 (by have := A0.le; omega) (fun k h1 h2 h3 => by
   have hl := all k (by omega)
   refine ⟨?_, hl⟩
   cases hq : loB is k with
   | true => rfl
   | false => have := A0.eff2 k h3 hq hl; omega)
  rw [show m0 + (is.length - m0) = is.length by have := A0.le; omega] at A
  have hm : Hf T h' is.length = h' /\ Nf T n' is.length = n' := ⟨t.end_.2.1, t.end_.2.2⟩
  have hg := A.gm
  rw [hm.1, hm.2] at hg
  refine ⟨r', h', n', hK, ρ, φ, hg, fun d y hy => ?_, A.tmps, A.defers⟩
  rw [<- t.end_.1] at hy
  rcases t.val is.length (Nat.le_refl _) d y hy with ⟨j, oj, h1, h2, h3, rfl⟩ | ⟨h1, h2⟩
  ·have := A.done j oj h2 (all j h1) (fun _ => h1) d h3
   rw [hm.2] at this; exact this
  ·have := A.old d y h2 fun j oj hj _ => h1 j oj (List.getElem?_eq_some_iff.1 hj).1 hj
   rw [hm.2] at this; exact this
 intro fuel
 induction fuel with
 | zero =>
  intro listed a w hA hf
  have hr : Region.ready .any ops listed = [] := by
   cases hq : Region.ready .any ops listed with
   | nil => rfl
   | cons i l =>
    exfalso
    obtain ⟨o, h1, h2, _⟩ := ZC0 (i := i) (ops := ops) (listed := listed) (by rw [hq]; simp)
    obtain ⟨m, ρ, φ, β, A⟩ := hA
    have hi : i < is.length := by rw [hlen']; exact (Array.getElem?_eq_some_iff.1 h1).1
    have h0 : (List.range is.length).countP (fun i => !listed.getD i false) = 0 := by omega
    rw [List.countP_eq_zero] at h0
    have := h0 i (List.mem_range.2 hi)
    rw [ZDO (by rw [A.size]; exact hi)] at h2
    simp [h2] at this
  exact ⟨hr, fin listed a w hA hr⟩
 | succ fuel ih =>
  intro listed a w hA hf
  refine ⟨fin listed a w hA, fun i hi => ?_⟩
  obtain ⟨o, h1, h2, h3⟩ := ZC0 hi
  obtain ⟨io, h4, h5⟩ := hat h1
  obtain ⟨m, ρ, φ, β, A⟩ := hA
  have hil : i < is.length := (List.getElem?_eq_some_iff.1 h4).1
  have h2' : listed.getD i false = false := by rw [<- ZDO (by rw [A.size]; exact hil)]; exact h2
  unfold wpOp
  simp only [h1]
  refine A.step c t hob h5 h4 h2' (fun js hjs j hj => ?_) _ fun a w m ρ φ β A' => ih _ a w ⟨m, ρ, φ, β, A'⟩ ?_
  ·rw [haf h1] at hjs; cases hjs; exact h3 j hj
  ·have := ZDt (l := List.range is.length) (p := fun i => !listed.getD i false) (q := fun j => !(listed.setIfInBounds i true).getD j false) (fun j _ hq => by
     simp only [ZA6 _ _ _ (show i < listed.size by rw [A.size]; exact hil)] at hq
     split at hq
     ·simp at hq
     ·exact hq) i (List.mem_range.2 hil) (by simp [h2']) (by simp only [ZA6 _ _ _ (show i < listed.size by rw [A.size]; exact hil)]; simp)
   omega
theorem ZLc (hm : G.P.follows .mixedOrders = true) (hok : ZML is after = true) {K : X -> Regs -> Heap -> Nat -> Prop}
  (he : evD (CallD G) (InvD G) (EscD G) is r h n [] fun T r h n => obl (CallD G) (InvD G) (EscD G) (ZKP is (masks after)) T.reverse h n (K .nrm r h n)) : DrawP G is after r h n K := by
 rw [ZGK]
 intro id ops hc ha a w ⟨ρ, φ, hg, hr, hsz, hdf⟩
 have c := ZLY hok
 obtain ⟨T, r', h', n', ht, hk⟩ := ZPD is (by simp [ZCh]) r h n [] he
 simp only [List.append_nil, List.reverse_reverse] at hk
 obtain ⟨hK, hob⟩ := ZMM _ _ _ _ hk
 obtain ⟨hlen, _⟩ := ZFb hc
 have hlen' : is.length = ops.size := by simpa using hlen
 obtain ⟨e1, e2, e3⟩ := ht.head
 have hnone : ∀ i, (Array.replicate ops.size false).getD i false = false := fun i => by
  simp only [Array.getD_eq_getD_getElem?, Array.getElem?_replicate]; split <;> rfl
 refine wp_region_any hm (ZNR c ht hob hc ha hK _ _ _ _ ⟨0, ρ, φ, fun _ => 0, ?_⟩ (by
  refine Nat.le_trans List.countP_le_length ?_
  simp [hlen']))
 refine ⟨by simp [hlen'], fun i js hl => (by rw [hnone] at hl; cases hl), hsz, hdf, Nat.zero_le _, fun i _ h => absurd h (Nat.not_lt_zero _), fun i _ _ hl => (by rw [hnone] at hl; cases hl), ?_, fun i o _ hl => (by rw [hnone] at hl; cases hl), fun t x hx _ => ?_, fun i o z d _ _ _ hl => (by rw [hnone] at hl; cases hl), fun i j _ _ _ _ hl => (by rw [hnone] at hl; cases hl)⟩
 ·rw [e2, e3]
  exact GM.mono hg (fun _ _ => rfl) (fun _ hk => hk) (fun _ _ _ _ _ => rfl) hg.frm.drew (Nat.le_refl _)
 ·rw [e3]; exact hr t x hx
end
end Go.Sx
