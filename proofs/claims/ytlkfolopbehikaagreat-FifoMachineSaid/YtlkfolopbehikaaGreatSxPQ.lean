/- part -/
import Derived.Test.YtlkfolopbehikaaGreatSxPM
set_option linter.unusedSimpArgs false
set_option linter.unusedVariables false
namespace Go.Sx
open Go
def ZCy (is : List IOp) : List Nat -> Option Nat
 | [] => none
 | i :: l => match nth is i with
  | some o => match o.guard, ZCg o.i with
   | none, true => some i
   | _, _ => ZCy is l
  | none => ZCy is l
theorem ZEe {is : List IOp} : ∀ {l : List Nat} {j : Nat}, ZCy is l = some j -> j ∈ l /\ ∃ o, is[j]? = some o /\ o.guard = none /\ ZCg o.i = true
 | i :: l, j, h => by
  have rest : ZCy is l = some j -> j ∈ i :: l /\ ∃ o, is[j]? = some o /\ o.guard = none /\ ZCg o.i = true := fun h => by
   obtain ⟨h1, h2⟩ := ZEe h
   exact ⟨List.mem_cons_of_mem _ h1, h2⟩
  unfold ZCy at h
  split at h
  ·rename_i o ho
   split at h
   ·rename_i h1 h2
    simp only [Option.some.injEq] at h
    subst h
    rw [ZAc] at ho
    exact ⟨by simp, o, ho, h1, h2⟩
   ·exact rest h
  ·exact rest h
def ZO3 (after : List (List Nat)) (j i : Nat) : Bool := match nth after j with
 | some js => js.any (Nat.beq i)
 | none => false
def ZMC (after : List (List Nat)) (a b : IOp) (i j : Nat) : Bool := match a.dst with
 | some d => (Nat.beq i j || (match b.dst with | some e => !(Nat.beq d e) | none => true)) && (!((ZDG b).any (Nat.beq d)) || ZO3 after j i)
 | none => true
def ZED (is : List IOp) (after : List (List Nat)) : Bool :=
 ZQH after && (List.range is.length).all fun i => (List.range is.length).all fun j => match nth is i, nth is j with
  | some a, some b => ZMC after a b i j
  | _, _ => true
theorem ZCz {is : List IOp} {after : List (List Nat)} (h : ZED is after = true) {i j : Nat} {a b : IOp} (hi : is[i]? = some a) (hj : is[j]? = some b) {d : Nat} (hd : a.dst = some d) :
  (i ≠ j -> b.dst ≠ some d) /\ (d ∈ ZDG b -> ∃ js, after[j]? = some js /\ i ∈ js) := by
 unfold ZED at h
 rw [Bool.and_eq_true, List.all_eq_true] at h
 have h1 := h.2 i (List.mem_range.2 (List.getElem?_eq_some_iff.1 hi).1)
 rw [List.all_eq_true] at h1
 have h2 := h1 j (List.mem_range.2 (List.getElem?_eq_some_iff.1 hj).1)
 rw [ZAc, ZAc, hi, hj] at h2
 simp only [ZMC, hd, Bool.and_eq_true, Bool.or_eq_true] at h2
 obtain ⟨h3, h4⟩ := h2
 refine ⟨fun hne hb => ?_, fun hl => ?_⟩
 ·rcases h3 with h3 | h3
  ·exact hne (Nat.eq_of_beq_eq_true h3)
  ·rw [hb] at h3
   simp only [Nat.beq_refl, Bool.not_true] at h3
   cases h3
 ·rcases h4 with h4 | h4
  ·have : (ZDG b).any (Nat.beq d) = true := List.any_eq_true.2 ⟨d, hl, Nat.beq_refl d⟩
   rw [this] at h4; cases h4
  ·unfold ZO3 at h4
   rw [ZAc] at h4
   cases hq : after[j]? with
   | none => rw [hq] at h4; cases h4
   | some js =>
    rw [hq] at h4
    obtain ⟨x, hx, hb⟩ := List.any_eq_true.1 h4
    have := Nat.eq_of_beq_eq_true hb
    subst this
    exact ⟨js, rfl, hx⟩
def evLz (G : Ctx) (is : List IOp) (after : List (List Nat)) : Nat -> List Nat -> Regs -> Heap -> Nat -> (Regs -> Heap -> Nat -> Prop) -> Prop
 | 0, _, _, _, _, _ => False
 | f + 1, done, r, h, n, K => match ZBi done after 0 with
  | [] => K r h n
  | i :: l => match ZCy is (i :: l) with
   | some j => natK j fun j => match nth is j with
    | some ⟨dst, none, op⟩ => evI (CallD G) (InvD G) (EscD G) op r h n fun x u n' => catH u h fun h' => evLz G is after f (j :: done) (putR dst x r) h' n' K
    | _ => False
   | none => allL (i :: l) fun j => match nth is j with
    | some ⟨dst, none, op⟩ => evI (CallD G) (InvD G) (EscD G) op r h n fun x u n' => catH u h fun h' => evLz G is after f (j :: done) (putR dst x r) h' n' K
    | _ => False
theorem ZO4 {i : I} (h : ZCg i = true) : ZCF i = true := by
 cases i <;> first | rfl | (simp [ZCg] at h)
structure Lz (G : Ctx) (is : List IOp) (after : List (List Nat)) (done : List Nat) (r : Regs) (h : Heap) (n : Nat) (lA : Array Bool) (a : Act) (w : World) : Prop where
 ex : ∃ ρ φ, GM G h (lt n) ρ φ w /\ ∀ t x, rget r t = some x -> (∀ p o, is[p]? = some o -> p ∈ done -> lA.getD p false = false -> o.dst ≠ some t) -> a.tmps[t]? = some (x.at ρ) /\ x.ok ρ (lt n)
 pend : ∀ p o, is[p]? = some o -> p ∈ done -> lA.getD p false = false -> ZCg o.i = true /\ o.guard = none /\ ∃ X, evI (CallP G) (InvP G) (EscR G) o.i r h n (fun x u m => x = X /\ u = [] /\ m = n) /\ ∀ d, o.dst = some d -> rget r d = some X
 sub : ∀ p, lA.getD p false = true -> p ∈ done
 dn : ∀ (p : Nat) js, after[p]? = some js -> p ∈ done -> ∀ j ∈ js, j ∈ done
 tmps : a.tmps.size = G.N
 defers : a.defers = []
theorem ZDr (d : Option Nat) (x : SV) (r : Regs) (t : Nat) : rget (putR d x r) t = if d = some t then some x else rget r t := by
 cases d with
 | none => simp [putR]
 | some d =>
  simp only [putR, ZBG, Option.some.injEq]
section
variable {G : Ctx} {is : List IOp} {after : List (List Nat)} {done : List Nat} {r : Regs} {h : Heap} {n : Nat} {lA : Array Bool} {a : Act} {w : World}
theorem ZFY {i : I} {r r' : Regs} (H : ∀ t ∈ ZAN i, rget r t = rget r' t) (h : Heap) (n : Nat) (K : SV -> Heap -> Nat -> Prop) : evI (CallP G) (InvP G) (EscR G) i r h n K = evI (CallP G) (InvP G) (EscR G) i r' h n K :=
 ZKM (CP := CallP G) (IP := InvP G) (EP := EscR G) (fun op r r' H => EscR.congr H) (by simp [ZCh]) H h n K
theorem Lz.keep (L : Lz G is after done r h n lA a w) (ok : ZED is after = true) {i : Nat} {io : IOp} (hio : is[i]? = some io) (hni : i ∉ done) {p : Nat} {o : IOp} (hp : is[p]? = some o) (hpd : p ∈ done) {X x : SV} (hf : ZCg o.i = true)
  (he : evI (CallP G) (InvP G) (EscR G) o.i r h n (fun x u m => x = X /\ u = [] /\ m = n)) (h' : Heap) (n' : Nat) :
  evI (CallP G) (InvP G) (EscR G) o.i (putR io.dst x r) h' n' (fun x u m => x = X /\ u = [] /\ m = n') := by
 have h1 := ZQa (by simp [ZCh]) hf he h' n' (K := fun x u m => x = X /\ u = [] /\ m = n') ⟨rfl, rfl, rfl⟩
 rw [ZFY (r := putR io.dst x r) (r' := r) fun t ht => ?_]
 ·exact h1
 ·rw [ZDr, if_neg fun hd => ?_]
  obtain ⟨js, h2, h3⟩ := (ZCz ok hio hp hd).2 (by unfold ZDG; exact List.mem_append_left _ ht)
  exact hni (L.dn p js h2 hpd i h3)
theorem Lz.ahead (L : Lz G is after done r h n lA a w) (ok : ZED is after = true) {j : Nat} {o : IOp} (hj : is[j]? = some o) (hg : o.guard = none) (hf : ZCg o.i = true) (hnd : j ∉ done) (hrd : ∀ js, after[j]? = some js -> ∀ q ∈ js, q ∈ done) {X : SV}
  (he : evI (CallP G) (InvP G) (EscR G) o.i r h n (fun x u m => x = X /\ u = [] /\ m = n)) : Lz G is after (j :: done) (putR o.dst X r) h n lA a w := by
 have hlj : lA.getD j false = false := by
  cases hq : lA.getD j false with
  | false => rfl
  | true => exact absurd (L.sub j hq) hnd
 refine ⟨?_, fun p op hp hpd hpl => ?_, fun p hp => List.mem_cons_of_mem _ (L.sub p hp), fun p js hjs hp q hq => ?_, L.tmps, L.defers⟩
 ·obtain ⟨ρ, φ, g, hr⟩ := L.ex
  refine ⟨ρ, φ, g, fun t x hx hn => ?_⟩
  have hne : o.dst ≠ some t := hn j o hj (by simp) hlj
  rw [ZDr, if_neg hne] at hx
  exact hr t x hx fun p op hp hpd hpl => hn p op hp (List.mem_cons_of_mem _ hpd) hpl
 ·rcases List.mem_cons.1 hpd with rfl | hpd
  ·rw [hj] at hp; cases hp
   refine ⟨hf, hg, X, ?_, fun d hd => by rw [ZDr, if_pos hd]⟩
   rw [ZFY (r := putR o.dst X r) (r' := r) fun t ht => ?_]
   ·exact he
   ·rw [ZDr, if_neg fun hd => ?_]
    obtain ⟨js, h2, h3⟩ := (ZCz ok hj hj hd).2 (by unfold ZDG; exact List.mem_append_left _ ht)
    exact hnd (hrd js h2 p h3)
  ·obtain ⟨h1, h2, Y, h3, h4⟩ := L.pend p op hp hpd hpl
   refine ⟨h1, h2, Y, L.keep ok hj hnd hp hpd h1 h3 h n, fun d hd => ?_⟩
   rw [ZDr, if_neg fun hd2 => ?_]
   ·exact h4 d hd
   ·exact (ZCz ok hj hp hd2).1 (fun e => hnd (e ▸ hpd)) hd
 ·rcases List.mem_cons.1 hp with rfl | hp
  ·exact List.mem_cons_of_mem _ (hrd js hjs q hq)
  ·exact List.mem_cons_of_mem _ (L.dn p js hjs hp q hq)
theorem ZKG {lA : Array Bool} {i p : Nat} (hi : i < lA.size) (h : (lA.setIfInBounds i true).getD p false = false) : i ≠ p /\ lA.getD p false = false := by
 rw [ZA6 _ _ _ hi] at h
 split at h
 ·cases h
 ·exact ⟨by assumption, h⟩
theorem ZMD {lA : Array Bool} {i p : Nat} (hi : i < lA.size) (h : (lA.setIfInBounds i true).getD p false = true) : i = p \/ lA.getD p false = true := by
 rw [ZA6 _ _ _ hi] at h
 split at h
 ·exact .inl (by assumption)
 ·exact .inr h
theorem ZQX {a : Act} {o : Oper} {N d : Nat} {v : Value} (hs : a.tmps.size = N) (hf : ZLL N o.dst = true) (hd : o.dst = some d) : (a.put o.dst v).tmps[d]? = some v := by
 simp only [Act.put, hd]
 rw [hd] at hf
 have : d < a.tmps.size := by rw [hs]; simpa [ZLL] using hf
 simp [this]
theorem ZQY {a : Act} {o : Oper} {d : Nat} {v : Value} (hne : o.dst ≠ some d) : (a.put o.dst v).tmps[d]? = a.tmps[d]? := by
 cases hd : o.dst with
 | none => rfl
 | some e =>
  have : e ≠ d := fun he => hne (by rw [hd, he])
  simp only [Act.put]
  rw [Array.getElem?_setIfInBounds_ne this]
theorem Lz.looks (L : Lz G is after done r h n lA a w) (ok : ZED is after = true) {i : Nat} {io : IOp} (hio : is[i]? = some io) (hrd : ∀ js, after[i]? = some js -> ∀ q ∈ js, lA.getD q false = true) {ρ : Env}
  (hr : ∀ t x, rget r t = some x -> (∀ p o, is[p]? = some o -> p ∈ done -> lA.getD p false = false -> o.dst ≠ some t) -> a.tmps[t]? = some (x.at ρ) /\ x.ok ρ (lt n)) : RM (restr (ZAN io.i) r) (lt n) ρ a := fun t x hx => by
 rw [ZBw] at hx
 split at hx
 ·rename_i ht
  refine hr t x hx fun p op hp hpd hpl hdst => ?_
  obtain ⟨js, h2, h3⟩ := (ZCz ok hp hio hdst).2 (by unfold ZDG; exact List.mem_append_left _ ht)
  have := hrd js h2 p h3
  rw [hpl] at this; cases this
 ·cases hx
theorem Lz.late (L : Lz G is after done r h n lA a w) (ok : ZED is after = true) {i : Nat} {io : IOp} (hio : is[i]? = some io) (hid : i ∈ done) (hl : lA.getD i false = false) (hsz : i < lA.size) (hrd : ∀ js, after[i]? = some js -> ∀ q ∈ js, lA.getD q false = true)
  {ops : Array Oper} {o : Oper} (hc : cOp G.P G.N ops o = some io) {Q : Exit -> Act -> World -> Prop} (next : Act -> World -> Prop) (hn : ∀ a w, Lz G is after done r h n (lA.setIfInBounds i true) a w -> next a w) :
  if Region.wanted o (yielded ops a.tmps) then o.wp G.P a w next Q \/ (o.asks G.P a w /\ LetsOut Q) else next (a.put o.dst undef) w := by
 obtain ⟨hf, hg, X, he, hX⟩ := L.pend i io hio hid hl
 obtain ⟨ρ, φ, g, hr⟩ := L.ex
 obtain ⟨hdst, hfit⟩ := ZLZ hc
 have hRM := L.looks ok hio hrd hr
 have hst : ZCV G io (restr (ZAN io.i) r) h n true X [] n := ⟨by simp [onR, hg], by
  show evI (CallP G) (InvP G) (EscR G) io.i (restr (ZAN io.i) r) h n _
  rw [ZFY (r := restr (ZAN io.i) r) (r' := r) fun t ht => by rw [ZBw, if_pos ht]]
  exact he⟩
 refine ZI4 hc g hRM hst next fun ρ' φ' w' h1 h2 h3 h4 h5 h6 => hn _ _ ⟨⟨ρ', φ', by simpa using h3, fun t x hx hnp => ?_⟩, fun p op hp hpd hpl => ?_, fun p hp => ?_, L.dn, by rw [Act.put_size]; exact L.tmps, by rw [Act.put_defers']; exact L.defers⟩
 ·by_cases hd : o.dst = some t
  ·have := hX t (hdst.trans hd)
   rw [this] at hx; cases hx
   exact ⟨ZQX L.tmps hfit hd, h4⟩
  ·obtain ⟨k1, k2⟩ := hr t x hx fun p op hp hpd hpl hdt => by
    by_cases e : i = p
    ·subst e
     rw [hio] at hp; cases hp
     exact hd (hdst ▸ hdt)
    ·exact hnp p op hp hpd (by rw [ZA6 _ _ _ hsz, if_neg e]; exact hpl) hdt
   exact ⟨by rw [ZQY hd, k1, SV.at_mono (D := lt n) h2 k2], SV.ok_mono (D := lt n) h2 (fun _ h => h) k2⟩
 ·exact L.pend p op hp hpd (ZKG hsz hpl).2
 ·rcases ZMD hsz hp with rfl | hp
  ·exact hid
  ·exact L.sub p hp
theorem Lz.now (L : Lz G is after done r h n lA a w) (ok : ZED is after = true) {i : Nat} {io : IOp} (hio : is[i]? = some io) (hg : io.guard = none) (hni : i ∉ done) (hsz : i < lA.size) (hrd : ∀ js, after[i]? = some js -> ∀ q ∈ js, lA.getD q false = true)
  {X : SV} {u : Heap} {n' : Nat} (he : evI (CallP G) (InvP G) (EscR G) io.i r h n (fun x' u' m => x' = X /\ u' = u /\ m = n'))
  {ops : Array Oper} {o : Oper} (hc : cOp G.P G.N ops o = some io) {Q : Exit -> Act -> World -> Prop} (next : Act -> World -> Prop) (hn : ∀ a w, Lz G is after (i :: done) (putR io.dst X r) (u ++ h) n' (lA.setIfInBounds i true) a w -> next a w) :
  if Region.wanted o (yielded ops a.tmps) then o.wp G.P a w next Q \/ (o.asks G.P a w /\ LetsOut Q) else next (a.put o.dst undef) w := by
 obtain ⟨ρ, φ, g, hr⟩ := L.ex
 obtain ⟨hdst, hfit⟩ := ZLZ hc
 have hRM := L.looks ok hio hrd hr
 have hst : ZCV G io (restr (ZAN io.i) r) h n true X u n' := ⟨by simp [onR, hg], by
  show evI (CallP G) (InvP G) (EscR G) io.i (restr (ZAN io.i) r) h n _
  rw [ZFY (r := restr (ZAN io.i) r) (r' := r) fun t ht => by rw [ZBw, if_pos ht]]
  exact he⟩
 refine ZI4 hc g hRM hst next fun ρ' φ' w' h1 h2 h3 h4 h5 h6 => hn _ _ ⟨⟨ρ', φ', h3, fun t x hx hnp => ?_⟩, fun p op hp hpd hpl => ?_, fun p hp => ?_, fun p js hjs hp q hq => ?_, by rw [Act.put_size]; exact L.tmps, by rw [Act.put_defers']; exact L.defers⟩
 ·rw [ZDr] at hx
  by_cases hd : io.dst = some t
  ·rw [if_pos hd] at hx; cases hx
   exact ⟨ZQX L.tmps hfit (hdst ▸ hd), h4⟩
  ·rw [if_neg hd] at hx
   obtain ⟨k1, k2⟩ := hr t x hx fun p op hp hpd hpl hdt => by
    by_cases e : i = p
    ·subst e; exact hni hpd
    ·exact hnp p op hp (List.mem_cons_of_mem _ hpd) (by rw [ZA6 _ _ _ hsz, if_neg e]; exact hpl) hdt
   exact ⟨by rw [ZQY (hdst ▸ hd), k1, SV.at_mono (D := lt n) h2 k2], SV.ok_mono (D := lt n) h2 (fun _ h => Nat.lt_of_lt_of_le h h1) k2⟩
 ·obtain ⟨e1, e2⟩ := ZKG hsz hpl
  rcases List.mem_cons.1 hpd with rfl | hpd
  ·exact absurd rfl e1
  ·obtain ⟨k1, k2, Y, k3, k4⟩ := L.pend p op hp hpd e2
   refine ⟨k1, k2, Y, L.keep ok hio hni hp hpd k1 k3 _ _, fun d hd => ?_⟩
   rw [ZDr, if_neg fun hd2 => ?_]
   ·exact k4 d hd
   ·exact (ZCz ok hio hp hd2).1 e1 hd
 ·rcases ZMD hsz hp with rfl | hp
  ·simp
  ·exact List.mem_cons_of_mem _ (L.sub p hp)
 ·rcases List.mem_cons.1 hp with rfl | hp
  ·exact List.mem_cons_of_mem _ (L.sub q (hrd js hjs q hq))
  ·exact List.mem_cons_of_mem _ (L.dn p js hjs hp q hq)
theorem Lz.adv {K : Regs -> Heap -> Nat -> Prop} (ok : ZED is after = true) {i : Nat} (hrd : ∀ js, after[i]? = some js -> ∀ q ∈ js, lA.getD q false = true) (hex : ∃ js, after[i]? = some js) : ∀ (f : Nat) (done : List Nat) (r : Regs) (h : Heap) (n : Nat), evLz G is after f done r h n K -> Lz G is after done r h n lA a w -> i ∉ done ->
  ∃ done' r' h' n', Lz G is after done' r' h' n' lA a w /\ ((i ∈ done' /\ ∃ f', evLz G is after f' done' r' h' n' K) \/ (i ∉ done' /\ ∃ io x u m f', is[i]? = some io /\ io.guard = none /\ evI (CallP G) (InvP G) (EscR G) io.i r' h' n' (fun x' u' m' => x' = x /\ u' = u /\ m' = m) /\ evLz G is after f' (i :: done') (putR io.dst x r') (u ++ h') m K)) := by
 intro f
 induction f with
 | zero => intro done r h n he; exact he.elim
 | succ f ih =>
  intro done r h n he L hni
  have hix : i ∈ ZBi done after 0 := by
   obtain ⟨js, hjs⟩ := hex
   exact ZCK.2 ⟨js, Nat.zero_le _, by simpa using hjs, hni, fun x hx => L.sub x (hrd js hjs x hx)⟩
  simp only [evLz] at he
  cases hq : ZBi done after 0 with
  | nil => rw [hq] at hix; cases hix
  | cons i0 l =>
   rw [hq] at he hix
   simp only at he
   cases hf : ZCy is (i0 :: l) with
   | some j =>
    rw [hf] at he
    simp only [ZBP] at he
    obtain ⟨hjm, ⟨dst, gd, op⟩, hjo, hg, hfr⟩ := ZEe hf
    simp only at hg hfr
    subst hg
    simp only [ZAc, hjo] at he
    obtain ⟨x, u, n', h1, h2⟩ := ZKO (by simp [ZCh]) he
    rw [ZGj] at h1
    obtain ⟨rfl, rfl⟩ := ZQZ (by simp [ZCh]) (ZO4 hfr) h2
    obtain ⟨js, _, h3, h4, h5⟩ := ZCK.1 (by rw [hq]; exact hjm)
    have L' := L.ahead ok hjo rfl hfr h4 (fun js' hjs' q hq' => by
     rw [Nat.sub_zero] at h3
     rw [h3] at hjs'; cases hjs'
     exact h5 q hq') h2
    rw [List.nil_append] at h1
    by_cases e : i = j
    ·exact ⟨_, _, _, _, L', .inl ⟨by simp [e], f, h1⟩⟩
    ·exact ih _ _ _ _ h1 L' (by simp [e, hni])
   | none =>
    rw [hf] at he
    simp only at he
    have hp := ZIy he i hix
    simp only [ZAc] at hp
    cases hio : is[i]? with
    | none => rw [hio] at hp; exact hp.elim
    | some io =>
     obtain ⟨dst, gd, op⟩ := io
     rw [hio] at hp
     cases gd with
     | some g0 => exact hp.elim
     | none =>
      simp only at hp
      obtain ⟨x, u, n', h1, h2⟩ := ZKO (by simp [ZCh]) hp
      rw [ZGj] at h1
      exact ⟨_, _, _, _, L, .inr ⟨hni, _, x, u, n', f, rfl, rfl, h2, h1⟩⟩
end
theorem ZQB {G : Ctx} {is : List IOp} {after : List (List Nat)} (ok : ZED is after = true) {ops : Array Oper} (hc : cOps G.P G.N ops ops.toList = some is) (ha : ops.toList.map ZCI = after) {K : X -> Regs -> Heap -> Nat -> Prop} :
  ∀ (F f : Nat) (done : List Nat) (lA : Array Bool) (r : Regs) (h : Heap) (n : Nat) (a : Act) (w : World), lA.size = ops.size -> evLz G is after f done r h n (K .nrm) -> Lz G is after done r h n lA a w ->
   (List.range ops.size).countP (fun i => !lA.getD i false) <= F -> wpAny G.P .any ops (QK G K) F lA a w := by
 obtain ⟨hlen, hget⟩ := ZFb hc
 have hlen' : is.length = ops.size := by simpa using hlen
 have haf : ∀ {i : Nat} {o : Oper}, ops[i]? = some o -> after[i]? = some (ZCI o) := fun {i o} ho => by rw [<- ha]; simp [ho]
 have halen : after.length = ops.size := by rw [<- ha]; simp
 have hback : ZQH after = true := by
  unfold ZED at ok
  rw [Bool.and_eq_true] at ok
  exact ok.1
 have fin : ∀ (f : Nat) (done : List Nat) (lA : Array Bool) (r : Regs) (h : Heap) (n : Nat) (a : Act) (w : World), lA.size = ops.size -> evLz G is after f done r h n (K .nrm) -> Lz G is after done r h n lA a w -> Region.ready .any ops lA = [] -> QK G K .normal a w := fun f done lA r h n a w hs he L hr => by
  have all : ∀ i, i < ops.size -> lA.getD i false = true := by
   intro i
   induction i using Nat.strongRecOn with
   | _ i ih =>
    intro hi
    cases hq : lA.getD i false with
    | true => rfl
    | false =>
     exfalso
     have ho : ops[i]? = some ops[i] := Array.getElem?_eq_getElem hi
     have : i ∈ Region.ready .any ops lA := ZI5 ho (by rw [ZDO (by rw [hs]; exact hi)]; exact hq) fun j hj => by
      have hb := ZBI hback i (by rw [halen]; exact hi)
      rw [ZAc, haf ho] at hb
      have hji : j < i := of_decide_eq_true (List.all_eq_true.1 hb j hj)
      exact ih j hji (by omega)
     rw [hr] at this; cases this
  cases f with
  | zero => exact he.elim
  | succ f =>
   have hnil : ZBi done after 0 = [] := by
    cases hq : ZBi done after 0 with
    | nil => rfl
    | cons i l =>
     exfalso
     obtain ⟨js, _, h1, h2, _⟩ := ZCK.1 (show i ∈ ZBi done after 0 by rw [hq]; simp)
     rw [Nat.sub_zero] at h1
     exact h2 (L.sub i (all i (by rw [<- halen]; exact (List.getElem?_eq_some_iff.1 h1).1)))
   simp only [evLz, hnil] at he
   obtain ⟨ρ, φ, g, hr⟩ := L.ex
   refine ⟨r, h, n, he, ρ, φ, g, fun t x hx => hr t x hx fun p o hp hpd hpl => ?_, L.tmps, L.defers⟩
   have := all p (by rw [<- hlen']; exact (List.getElem?_eq_some_iff.1 hp).1)
   rw [hpl] at this; cases this
 intro F
 induction F with
 | zero =>
  intro f done lA r h n a w hs he L hcnt
  have hr : Region.ready .any ops lA = [] := by
   cases hq : Region.ready .any ops lA with
   | nil => rfl
   | cons i l =>
    exfalso
    obtain ⟨o, h1, h2, _⟩ := ZC0 (i := i) (ops := ops) (listed := lA) (by rw [hq]; simp)
    have hi : i < ops.size := (Array.getElem?_eq_some_iff.1 h1).1
    have h0 : (List.range ops.size).countP (fun i => !lA.getD i false) = 0 := by omega
    rw [List.countP_eq_zero] at h0
    have := h0 i (List.mem_range.2 hi)
    rw [ZDO (by rw [hs]; exact hi)] at h2
    simp [h2] at this
  exact ⟨hr, fin f done lA r h n a w hs he L hr⟩
 | succ F ih =>
  intro f done lA r h n a w hs he L hcnt
  refine ⟨fin f done lA r h n a w hs he L, fun i hi => ?_⟩
  obtain ⟨o, h1, h2, h3⟩ := ZC0 hi
  have hil : i < ops.size := (Array.getElem?_eq_some_iff.1 h1).1
  have hila : i < lA.size := by rw [hs]; exact hil
  obtain ⟨io, h4, h5⟩ := hget i o (by simpa using h1)
  have h2' : lA.getD i false = false := by rw [<- ZDO hila]; exact h2
  have hrd : ∀ js, after[i]? = some js -> ∀ q ∈ js, lA.getD q false = true := fun js hjs q hq => by
   rw [haf h1] at hjs; cases hjs
   exact h3 q hq
  have hcnt' : (List.range ops.size).countP (fun j => !(lA.setIfInBounds i true).getD j false) <= F := by
   have := ZDt (l := List.range ops.size) (p := fun i => !lA.getD i false) (q := fun j => !(lA.setIfInBounds i true).getD j false) (fun j _ hq => by
    simp only [ZA6 _ _ _ hila] at hq
    split at hq
    ·simp at hq
    ·exact hq) i (List.mem_range.2 hil) (by simp [h2']) (by simp only [ZA6 _ _ _ hila]; simp)
   omega
  unfold wpOp
  simp only [h1]
  by_cases hid : i ∈ done
  ·exact L.late ok h4 hid h2' hila hrd h5 _ fun a w L' => ih f done _ r h n a w (by simpa using hs) he L' hcnt'
  ·obtain ⟨done', r', h', n', L', hcase⟩ := Lz.adv ok hrd ⟨_, haf h1⟩ f done r h n he L hid
   rcases hcase with ⟨hid', f', he'⟩ | ⟨hid', io', x, u, m, f', k1, k2, k3, k4⟩
   ·exact L'.late ok h4 hid' h2' hila hrd h5 _ fun a w L'' => ih f' done' _ r' h' n' a w (by simpa using hs) he' L'' hcnt'
   ·rw [h4] at k1; cases k1
    exact L'.now ok h4 k2 hid' hila hrd k3 h5 _ fun a w L'' => ih f' _ _ _ _ _ a w (by simpa using hs) k4 L'' hcnt'
theorem ZCk {G : Ctx} (hm : G.P.follows .mixedOrders = true) {is : List IOp} {after : List (List Nat)} {r : Regs} {h : Heap} {n : Nat} {K : X -> Regs -> Heap -> Nat -> Prop} (f : Nat) (ok : ZED is after = true) (he : evLz G is after f [] r h n (K .nrm)) : DrawP G is after r h n K := by
 rw [ZGK]
 intro id ops hc ha a w hs
 have hnone : ∀ i, (Array.replicate ops.size false).getD i false = false := fun i => by
  simp only [Array.getD_eq_getD_getElem?, Array.getElem?_replicate]; split <;> rfl
 obtain ⟨ρ, φ, hg, hr, hsz, hdf⟩ := hs
 refine wp_region_any hm (ZQB ok hc ha _ f [] _ r h n _ _ (by simp) he ⟨⟨ρ, φ, GM.mono hg (fun _ _ => rfl) (fun _ hk => hk) (fun _ _ _ _ _ => rfl) hg.frm.drew (Nat.le_refl _), fun t x hx _ => hr t x hx⟩, fun p o _ hp => (by cases hp), fun p hp => (by rw [hnone] at hp; cases hp), fun p js _ hp => (by cases hp), hsz, hdf⟩ (by
  refine Nat.le_trans List.countP_le_length ?_
  simp))
end Go.Sx
