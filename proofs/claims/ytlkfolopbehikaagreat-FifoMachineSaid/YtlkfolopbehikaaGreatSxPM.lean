/- part -/
import Derived.Test.YtlkfolopbehikaaGreatSxPL
set_option linter.unusedSimpArgs false
set_option linter.unusedVariables false
namespace Go.Sx
open Go
def inL : List Nat -> Nat -> Bool
 | [], _ => false
 | x :: xs, i => bif Nat.beq x i then true else inL xs i
theorem ZGw : ∀ {l : List Nat} {i : Nat}, inL l i = true ↔ i ∈ l
 | [], i => by simp [inL]
 | x :: xs, i => by
  simp only [inL, List.mem_cons]
  cases hb : Nat.beq x i with
  | true => have := Nat.eq_of_beq_eq_true hb; simp [this]
  | false =>
   have : i ≠ x := fun e => by subst e; rw [Nat.beq_refl] at hb; cases hb
   simp only [cond_false, ZGw (l := xs), this, false_or]
def ZNM : List Nat -> List Nat -> Bool
 | [], _ => true
 | x :: xs, l => bif inL l x then ZNM xs l else false
theorem ZGx : ∀ {xs l : List Nat}, ZNM xs l = true ↔ ∀ x ∈ xs, x ∈ l
 | [], l => by simp [ZNM]
 | x :: xs, l => by
  simp only [ZNM]
  cases hb : inL l x with
  | true => simp [ZGx, ZGw.1 hb]
  | false =>
   simp only [cond_false, Bool.false_eq_true, false_iff]
   intro h
   have := ZGw.2 (h x (by simp))
   rw [hb] at this; cases this
def ZBi (listed : List Nat) : List (List Nat) -> Nat -> List Nat
 | [], _ => []
 | js :: rest, i => bif inL listed i then ZBi listed rest (i + 1) else bif ZNM js listed then i :: ZBi listed rest (i + 1) else ZBi listed rest (i + 1)
theorem ZCK {listed : List Nat} : ∀ {after : List (List Nat)} {i j : Nat}, j ∈ ZBi listed after i ↔ ∃ js, i <= j /\ after[j - i]? = some js /\ j ∉ listed /\ ∀ x ∈ js, x ∈ listed
 | [], i, j => by simp [ZBi]
 | js :: rest, i, j => by
  have step : (∃ js', i <= j /\ (js :: rest)[j - i]? = some js' /\ j ∉ listed /\ ∀ x ∈ js', x ∈ listed) ↔ (j = i /\ j ∉ listed /\ ∀ x ∈ js, x ∈ listed) \/ ∃ js', i + 1 <= j /\ rest[j - (i + 1)]? = some js' /\ j ∉ listed /\ ∀ x ∈ js', x ∈ listed := by
   constructor
   ·rintro ⟨js', h1, h2, h3, h4⟩
    by_cases e : j = i
    ·subst e
     rw [Nat.sub_self] at h2
     simp at h2; subst h2
     exact .inl ⟨rfl, h3, h4⟩
    ·refine .inr ⟨js', by omega, ?_, h3, h4⟩
     rw [show j - i = (j - (i + 1)) + 1 by omega] at h2
     simpa using h2
   ·rintro (⟨rfl, h3, h4⟩ | ⟨js', h1, h2, h3, h4⟩)
    ·exact ⟨js, Nat.le_refl _, by simp, h3, h4⟩
    ·refine ⟨js', by omega, ?_, h3, h4⟩
     rw [show j - i = (j - (i + 1)) + 1 by omega]
     simpa using h2
  rw [step, <- ZCK (after := rest) (i := i + 1)]
  simp only [ZBi]
  cases hb : inL listed i with
  | true =>
   simp only [cond_true]
   constructor
   ·exact .inr
   ·rintro (⟨rfl, h3, _⟩ | h)
    ·exact absurd (ZGw.1 hb) h3
    ·exact h
  | false =>
   have hni : i ∉ listed := fun h => by rw [ZGw.2 h] at hb; cases hb
   simp only [cond_false]
   cases hc : ZNM js listed with
   | true =>
    simp only [cond_true, List.mem_cons]
    constructor
    ·rintro (rfl | h)
     ·exact .inl ⟨rfl, hni, ZGx.1 hc⟩
     ·exact .inr h
    ·rintro (⟨rfl, _, _⟩ | h)
     ·exact .inl rfl
     ·exact .inr h
   | false =>
    simp only [cond_false]
    constructor
    ·exact .inr
    ·rintro (⟨rfl, _, h⟩ | h)
     ·rw [ZGx.2 h] at hc; cases hc
     ·exact h
def allL : List Nat -> (Nat -> Prop) -> Prop
 | [], _ => True
 | x :: xs, p => match xs with
  | [] => natK x p
  | _ => natK x p /\ allL xs p
theorem ZIy : ∀ {l : List Nat} {p : Nat -> Prop}, allL l p -> ∀ x ∈ l, p x
 | x :: xs, p, h, y, hy => by
  cases xs with
  | nil =>
   simp only [allL, ZBP] at h
   simp at hy; subst hy; exact h
  | cons z zs =>
   simp only [allL, ZBP] at h
   rcases List.mem_cons.1 hy with rfl | hy
   ·exact h.1
   ·exact ZIy (l := z :: zs) (by simpa only [allL, ZBP] using h.2) y hy
def ZLW (G : Ctx) (is : List IOp) (after : List (List Nat)) : Nat -> List Nat -> Regs -> Heap -> Nat -> (Regs -> Heap -> Nat -> Prop) -> Prop
 | 0, _, _, _, _, _ => False
 | f + 1, listed, r, h, n, K => match ZBi listed after 0 with
  | [] => K r h n
  | i :: l => allL (i :: l) fun i => match nth is i with
   | some ⟨dst, none, op⟩ => evI (CallP G) (InvP G) (EscP G) op r h n fun x u n' => catH u h fun h' => match dst with
    | some d => ZLW G is after f (i :: listed) ((d, x) :: r) h' n' K
    | none => ZLW G is after f (i :: listed) r h' n' K
   | _ => False
section
variable {G : Ctx}
theorem ZO2 {is : List IOp} {after : List (List Nat)} {ops : Array Oper} (hc : cOps G.P G.N ops ops.toList = some is) (ha : ops.toList.map ZCI = after) {K : X -> Regs -> Heap -> Nat -> Prop} :
  ∀ (F f : Nat) (listed : List Nat) (lA : Array Bool) (r : Regs) (h : Heap) (n : Nat) (a : Act) (w : World), lA.size = ops.size -> (∀ i, lA.getD i false = decide (i ∈ listed)) -> ZLW G is after f listed r h n (K .nrm) -> Sat G r h n a w ->
   (List.range ops.size).countP (fun i => !lA.getD i false) <= F -> wpAny G.P .any ops (QK G K) F lA a w := by
 obtain ⟨hlen, hget⟩ := ZFb hc
 have hlen' : is.length = ops.size := by simpa using hlen
 have haf : ∀ {i : Nat} {o : Oper}, ops[i]? = some o -> after[i]? = some (ZCI o) := fun {i o} ho => by rw [<- ha]; simp [ho]
 -- ready here is ready there
 have rdy : ∀ (listed : List Nat) (lA : Array Bool), lA.size = ops.size -> (∀ i, lA.getD i false = decide (i ∈ listed)) -> ∀ i, i ∈ Region.ready .any ops lA -> i ∈ ZBi listed after 0 := fun listed lA hs hl i hi => by
  obtain ⟨o, h1, h2, h3⟩ := ZC0 hi
  have hil : i < lA.size := by rw [hs]; exact (Array.getElem?_eq_some_iff.1 h1).1
  rw [ZDO hil, hl] at h2
  refine ZCK.2 ⟨_, Nat.zero_le _, haf h1, by simpa using h2, fun x hx => ?_⟩
  have := h3 x hx
  rw [hl] at this
  simpa using this
 have rdy' : ∀ (listed : List Nat) (lA : Array Bool), lA.size = ops.size -> (∀ i, lA.getD i false = decide (i ∈ listed)) -> ∀ i, i ∈ ZBi listed after 0 -> i ∈ Region.ready .any ops lA := fun listed lA hs hl i hi => by
  obtain ⟨js, _, h2, h3, h4⟩ := ZCK.1 hi
  rw [Nat.sub_zero, <- ha, List.getElem?_map] at h2
  cases ho : ops.toList[i]? with
  | none => rw [ho] at h2; cases h2
  | some o =>
   rw [ho] at h2
   simp only [Option.map_some, Option.some.injEq] at h2
   subst h2
   exact ZI5 (by simpa using ho) (by
    have hil : i < lA.size := by rw [hs]; have := (List.getElem?_eq_some_iff.1 ho).1; simpa using this
    rw [ZDO hil, hl]; simpa using h3) fun j hj => by rw [hl]; simpa using h4 j hj
 have fin : ∀ (f : Nat) (listed : List Nat) (lA : Array Bool) (r : Regs) (h : Heap) (n : Nat) (a : Act) (w : World), lA.size = ops.size -> (∀ i, lA.getD i false = decide (i ∈ listed)) -> ZLW G is after f listed r h n (K .nrm) -> Sat G r h n a w ->
   Region.ready .any ops lA = [] -> QK G K .normal a w := fun f listed lA r h n a w hs hl he hsat hr => by
  cases f with
  | zero => exact he.elim
  | succ f =>
   simp only [ZLW] at he
   cases hq : ZBi listed after 0 with
   | nil => rw [hq] at he; exact ⟨r, h, n, he, hsat⟩
   | cons i l =>
    have := rdy' listed lA hs hl i (by rw [hq]; simp)
    rw [hr] at this; cases this
 intro F
 induction F with
 | zero =>
  intro f listed lA r h n a w hs hl he hsat hcnt
  have hr : Region.ready .any ops lA = [] := by
   cases hq : Region.ready .any ops lA with
   | nil => rfl
   | cons i l =>
    exfalso
    obtain ⟨o, h1, h2, _⟩ := ZC0 (i := i) (ops := ops) (listed := lA) (by rw [hq]; simp)
    have hi : i < ops.size := (Array.getElem?_eq_some_iff.1 h1).1
    have h0 : (List.range ops.size).countP (fun i => !lA.getD i false) = 0 := by omega
    rw [List.countP_eq_zero] at h0
    have := h0 i (List.mem_range.2 hi)
    rw [ZDO (by rw [hs]; exact hi)] at h2
    simp [h2] at this
  exact ⟨hr, fin f listed lA r h n a w hs hl he hsat hr⟩
 | succ F ih =>
  intro f listed lA r h n a w hs hl he hsat hcnt
  refine ⟨fin f listed lA r h n a w hs hl he hsat, fun i hi => ?_⟩
  have hix := rdy listed lA hs hl i hi
  obtain ⟨o, h1, h2, h3⟩ := ZC0 hi
  have hil : i < ops.size := (Array.getElem?_eq_some_iff.1 h1).1
  obtain ⟨io, h4, h5⟩ := hget i o (by simpa using h1)
  cases f with
  | zero => exact he.elim
  | succ f =>
   simp only [ZLW] at he
   cases hq : ZBi listed after 0 with
   | nil => rw [hq] at hix; cases hix
   | cons i0 l =>
    rw [hq] at he hix
    have hp := ZIy he i hix
    simp only [ZAc, h4] at hp
    unfold wpOp
    simp only [h1]
    unfold cOp at h5
    split at h5
    ·rename_i ii gg hii hgg hfit
     simp only [Option.some.injEq] at h5; subst h5
     cases gg with
     | some g0 => exact hp.elim
     | none =>
      have hgd : o.guard = none := by
       cases hgd : o.guard with
       | none => rfl
       | some jw => rw [hgd] at hgg; obtain ⟨j, want⟩ := jw; simp only [cG] at hgg; split at hgg <;> cases hgg
      rw [if_pos (by simp [Region.wanted, hgd])]
      left
      obtain ⟨ρ, φ, g, hr, hsz, hdf⟩ := hsat
      refine ZGr g hr hii hp _ _ fun x u n' ρ' φ' w' hK hn hρ hg hx => ?_
      rw [ZGj] at hK
      have hmono := hr.mono (D' := lt n') hρ (fun k hk => Nat.lt_of_lt_of_le hk hn)
      have hsat' := ZLR (d := o.dst) hg hmono hsz hdf hx hfit
      have hcnt' : (List.range ops.size).countP (fun j => !(lA.setIfInBounds i true).getD j false) <= F := by
       have := ZDt (l := List.range ops.size) (p := fun i => !lA.getD i false) (q := fun j => !(lA.setIfInBounds i true).getD j false) (fun j _ hq => by
        simp only [ZA6 _ _ _ (show i < lA.size by rw [hs]; exact hil)] at hq
        split at hq
        ·simp at hq
        ·exact hq) i (List.mem_range.2 hil) (by rw [ZDO (by rw [hs]; exact hil)] at h2; simp [h2]) (by simp only [ZA6 _ _ _ (show i < lA.size by rw [hs]; exact hil)]; simp)
       omega
      have hl' : ∀ j, (lA.setIfInBounds i true).getD j false = decide (j ∈ i :: listed) := fun j => by
       rw [ZA6 _ _ _ (show i < lA.size by rw [hs]; exact hil)]
       by_cases e : j = i
       ·subst e; simp
       ·rw [if_neg (Ne.symm e), hl]; simp [e]
      cases hdst : o.dst with
      | none => rw [hdst] at hK hsat'; exact ih f (i :: listed) _ _ _ _ _ _ (by simpa using hs) hl' hK hsat' hcnt'
      | some d => rw [hdst] at hK hsat'; exact ih f (i :: listed) _ _ _ _ _ _ (by simpa using hs) hl' hK hsat' hcnt'
    ·cases h5
theorem ZKF (hm : G.P.follows .mixedOrders = true) {is : List IOp} {after : List (List Nat)} {r : Regs} {h : Heap} {n : Nat} {K : X -> Regs -> Heap -> Nat -> Prop} (f : Nat) (he : ZLW G is after f [] r h n (K .nrm)) : DrawP G is after r h n K := by
 rw [ZGK]
 intro id ops hc ha a w hs
 have hnone : ∀ i, (Array.replicate ops.size false).getD i false = false := fun i => by
  simp only [Array.getD_eq_getD_getElem?, Array.getElem?_replicate]; split <;> rfl
 obtain ⟨ρ, φ, hg, hr, hsz, hdf⟩ := hs
 refine wp_region_any hm (ZO2 hc ha _ f [] _ r h n _ _ (by simp) (fun i => by rw [hnone]; simp) he ⟨ρ, φ, GM.mono hg (fun _ _ => rfl) (fun _ hk => hk) (fun _ _ _ _ _ => rfl) hg.frm.drew (Nat.le_refl _), hr, hsz, hdf⟩ (by
  refine Nat.le_trans List.countP_le_length ?_
  simp))
end
end Go.Sx
