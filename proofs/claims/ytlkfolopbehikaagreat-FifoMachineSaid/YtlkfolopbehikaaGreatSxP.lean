/- part -/
import Derived.Test.YtlkfolopbehikaaGreatSxO
set_option linter.unusedSimpArgs false
set_option linter.unusedVariables false
set_option linter.unusedSectionVars false
namespace Go.Sx
open Go
def LV.ren (ι : Nat -> Nat) : LV -> LV
 | .v x => .v x
 | .p k wd row col => .p (ι k) wd row col
 | .s k wd row len d => .s (ι k) wd row len d
 | .i t k => .i t (ι k)
 | .io b t k => .io b t (ι k)
 | .c f ks => .c f (ks.map ι)
 | .fp k q wd row col => .fp (ι k) q wd row col
 | .mref k => .mref (ι k)
 | .stmp k => .stmp (ι k)
 | .fs k q wd row len d => .fs (ι k) q wd row len d
def AV.ren (ι : Nat -> Nat) : AV -> AV
 | .l x => .l (x.ren ι)
 | .a xs => .a (xs.map (LV.ren ι))
def SV.ren (ι : Nat -> Nat) : SV -> SV
 | .o x => .o (x.ren ι)
 | .t xs => .t (xs.map (AV.ren ι))
def Ent.ren (ι : Nat -> Nat) : Ent -> Ent
 | .st cs => .st (cs.map (LV.ren ι))
 | .mp q qe M s (some (n, j)) => .mp q qe M s (some (n, ι j))
 | .hl n f i x => .hl n f i (x.ren ι)
 | .ob ks R => .ob (ks.map ι) R
 | e => e
theorem LV.at_ren (ρ : Env) (ι : Nat -> Nat) (x : LV) : (x.ren ι).at ρ = x.at (fun k => ρ (ι k)) := by
 cases x <;> simp [LV.ren, LV.at, Function.comp_def]
theorem LV.ok_ren (ρ : Env) (D : Nat -> Prop) (ι : Nat -> Nat) (x : LV) : (x.ren ι).ok ρ D ↔ x.ok (fun k => ρ (ι k)) (fun k => D (ι k)) := by
 cases x <;> simp [LV.ren, LV.ok]
theorem AV.at_ren (ρ : Env) (ι : Nat -> Nat) (x : AV) : (x.ren ι).at ρ = x.at (fun k => ρ (ι k)) := by
 cases x with
 | l x => exact LV.at_ren ρ ι x
 | a xs => simp [AV.ren, AV.at, Function.comp_def, LV.at_ren]
theorem AV.ok_ren (ρ : Env) (D : Nat -> Prop) (ι : Nat -> Nat) (x : AV) : (x.ren ι).ok ρ D ↔ x.ok (fun k => ρ (ι k)) (fun k => D (ι k)) := by
 cases x with
 | l x => exact LV.ok_ren ρ D ι x
 | a xs => simp [AV.ren, AV.ok, LV.ok_ren]
theorem SV.at_ren (ρ : Env) (ι : Nat -> Nat) (x : SV) : (x.ren ι).at ρ = x.at (fun k => ρ (ι k)) := by
 cases x with
 | o x => exact AV.at_ren ρ ι x
 | t xs => simp [SV.ren, SV.at, Function.comp_def, AV.at_ren]
theorem SV.ok_ren (ρ : Env) (D : Nat -> Prop) (ι : Nat -> Nat) (x : SV) : (x.ren ι).ok ρ D ↔ x.ok (fun k => ρ (ι k)) (fun k => D (ι k)) := by
 cases x with
 | o x => exact AV.ok_ren ρ D ι x
 | t xs => simp [SV.ren, SV.ok, AV.ok_ren]
def ZFV : DV -> DV -> Prop
 | .v x, .v y => x = y
 | .sl w n f, .sl w' n' f' => w = w' /\ n = n' /\ ∀ i, i < n -> ∀ c, c < w -> ZFV (f i c) (f' i c)
 | _, _ => False
theorem ZFV.val {sub : List (Nat × Nat) -> Loc0} {p : List (Nat × Nat)} {d d' : DV} (h : ZFV d d') : ZCb sub p d = ZCb sub p d' := by
 cases d <;> cases d' <;> simp only [ZFV] at h
 ·simp [ZCb, h]
 ·obtain ⟨rfl, rfl, _⟩ := h; rfl
theorem ZFV.node {sub : List (Nat × Nat) -> Loc0} {d d' : DV} (h : ZFV d d') (hv : ZEc sub d) : ∀ p, (sub p).there = true -> ZFV (ZAv d p) (ZAv d' p)
 | [], _ => h
 | (i, c) :: p, ht => by
  obtain ⟨h1, wd, n, f, h2, h3, h4⟩ := hv p i c ht
  have ih := ZFV.node h hv p h1
  simp only [ZAv]
  rw [h2] at ih ⊢
  cases hq : ZAv d' p with
  | v x => rw [hq] at ih; exact ih.elim
  | sl w' n' f' =>
   rw [hq] at ih
   exact ih.2.2 i h3 c h4
def ZCe (ι : Nat -> Nat) : Ent -> Ent -> Prop
 | .st cs', .st cs => cs' = cs.map (LV.ren ι)
 | .ar wd' n' f', .ar wd n f => wd' = wd /\ n' = n /\ ∀ i, i < n -> f' i = f i
 | .ar wd' n' f', .ro wd n f => wd' = wd /\ n <= n' /\ ∀ i, i < n -> f' i = f i
 | .ro wd' n' f', .ro wd n f => wd' = wd /\ n <= n' /\ ∀ i, i < n -> f' i = f i
 | .ob ks' R', .ob ks R => ks' = ks.map ι /\ (R' = R \/ ((∀ ls, ZDb (R ls)) /\ ∀ ls l F w, R' ls l F w -> R ls l F w))
 | .rd R', .rd R => R' = R
 | .mp q' qe' M' s' _, .mp q qe M s o => q' = q /\ qe' = qe /\ s' = s /\ (∀ n, M' n = M n) /\ o = none
 | .hl n' f' i' x', .hl n f i x => n' = n /\ i' = i /\ x' = x.ren ι /\ ∀ j, j < n -> f' j = f j
 | .hl n' f' i' x', .ar wd n g => ∃ v, x' = .v v /\ wd = 1 /\ n' = n /\ ∀ j, j < n -> g j = [if j = i' then v else f' j]
 | .ar wd n' g, .hl n f i x => ∃ v, x = .v v /\ wd = 1 /\ n' = n /\ i < n /\ ∀ j, j < n -> g j = [if j = i then v else f j]
 | .dp o' d', .dp o d => (((o = true -> o' = true) /\ d' = d) \/ (o' = true /\ ZFV d' d)) \/ (o = false /\ ZFV d' d)
 | _, _ => False
theorem ZCe.own {ι : Nat -> Nat} {e' e : Ent} (h : ZCe ι e' e) (ho : e.own = true) : e'.own = true := by
 cases e <;> simp [Ent.own] at ho <;> cases e' <;> simp [ZCe] at h <;> first | rfl | (rcases h with h | h <;> simp_all [Ent.own] <;> rcases h with h | h <;> exact h.1)
theorem ZCe.at_ {ι : Nat -> Nat} {e' e : Ent} {ρ : Env} {D D' : Nat -> Prop} {l : Loc} {F : List Nat} {w : World} (h : ZCe ι e' e) (hD : ∀ k, D (ι k) -> D' k) (hE : ZBl e' ρ D l F w) : ZBl e (fun k => ρ (ι k)) D' l F w := by
 cases e' with
 | st cs' =>
  cases e <;> simp only [ZCe] at h
  rename_i cs
  subst h
  obtain ⟨h1, h2, h3, ⟨t, h4⟩, h5⟩ := hE
  refine ⟨h1, h2, h3, ⟨t, ?_⟩, fun x hx => ?_⟩
  ·rw [h4]; congr 2; simp [Function.comp_def, LV.at_ren]
  ·have := (LV.ok_ren ρ D ι x).1 (h5 _ (List.mem_map.2 ⟨x, hx, rfl⟩))
   exact LV.ok_mono (fun _ _ => rfl) hD this
 | ar wd' n' f' =>
  cases e <;> simp only [ZCe] at h
  ·rename_i wd n f
   obtain ⟨rfl, rfl, hf⟩ := h
   rcases hE with h | ⟨h1, h2, h3, h4, h5, cs, t, h6, h7, h8⟩
   ·exact .inl h
   ·exact .inr ⟨h1, h2, h3, h4, h5, cs, t, h6, h7, fun i hi => by rw [<- hf i hi]; exact h8 i hi⟩
  ·rename_i wd n f
   obtain ⟨rfl, hn, hf⟩ := h
   rcases hE with ⟨h1, h2, h3⟩ | ⟨h1, h2, h3, h4, h5, cs, t, h6, h7, h8⟩
   ·exact .inl ⟨by omega, h3⟩
   ·refine .inr ⟨h1, h3, fun i hi => ?_⟩
    rw [<- hf i hi]
    obtain ⟨h9, h10, h11⟩ := h8 i (by omega)
    refine ⟨h9, h10, fun j hj => ?_⟩
    rw [<- h11 j hj]
    simp [World.cell?, adr, h6, h2]
  ·rename_i n f i x
   obtain ⟨v, rfl, rfl, rfl, hi, hg⟩ := h
   rcases hE with ⟨_, h0, _⟩ | ⟨h1, h2, h3, h4, h5, cs, t, h6, h7, h8⟩
   ·omega
   ·refine ⟨⟨h1, h2, h3, h4, h5⟩, ⟨hi, trivial⟩, cs, t, h6, h7, fun j hj => ?_⟩
    obtain ⟨k1, k2, k3⟩ := h8 j hj
    have k4 := k3 0 (by omega)
    rw [hg j hj] at k2 k4
    rw [Nat.mul_one, Nat.add_zero] at k4
    exact ⟨k4, k2 _ (List.mem_singleton.2 rfl)⟩
 | ro wd' n' f' =>
  cases e <;> simp only [ZCe] at h
  rename_i wd n f
  obtain ⟨rfl, hn, hf⟩ := h
  rcases hE with ⟨h0, h1⟩ | ⟨h1, h2, h3⟩
  ·exact .inl ⟨by omega, h1⟩
  ·exact .inr ⟨h1, h2, fun i hi => by rw [<- hf i hi]; exact h3 i (by omega)⟩
 | ob ks' R' =>
  cases e <;> simp only [ZCe] at h
  rename_i ks R
  obtain ⟨rfl, h⟩ := h
  obtain ⟨h1, h2, h3⟩ := hE
  have e : (ks.map ι).map ρ = ks.map fun k => ρ (ι k) := by rw [List.map_map]; rfl
  rw [e] at h1 h3
  rcases h with rfl | ⟨q1, q2⟩
  ·exact ⟨h1, fun k hk => hD k (h2 _ (List.mem_map.2 ⟨k, hk, rfl⟩)), h3⟩
  ·exact ⟨q1 _, fun k hk => hD k (h2 _ (List.mem_map.2 ⟨k, hk, rfl⟩)), q2 _ _ _ _ h3⟩
 | rd R' =>
  cases e <;> simp only [ZCe] at h
  subst h; exact hE
 | mp q' qe' M' s' o' =>
  cases e <;> simp only [ZCe] at h
  obtain ⟨rfl, rfl, rfl, hM, rfl⟩ := h
  obtain ⟨h1, h2, es, clock, h3, h4, h5, h6, h7, h8⟩ := hE
  refine ⟨h1, h2, es, clock, h3, h4, h5, fun e he => ?_, fun n x hx => h7 n x (by rw [hM]; exact hx), trivial⟩
  obtain ⟨n, x, k1, k2, k3, k5⟩ := h6 e he
  exact ⟨n, x, k1, k2, k3, by rw [<- hM]; exact k5⟩
 | hl n' f' i' x' =>
  obtain ⟨⟨h1, h2, h3, h3', h3''⟩, ⟨h4, h5⟩, cs, t, h6, h7, h8⟩ := hE
  cases e <;> simp only [ZCe] at h
  ·rename_i wd n g
   obtain ⟨v, rfl, rfl, rfl, hg⟩ := h
   refine .inr ⟨h1, h2, h3, h3', h3'', cs, t, h6, h7, fun j hj => ?_⟩
   rw [hg j hj]
   obtain ⟨k1, k2⟩ := h8 j hj
   simp only [LV.at] at k1 k2
   refine ⟨rfl, fun y hy => by rw [List.mem_singleton.1 hy]; exact k2, fun c hc => ?_⟩
   obtain rfl : c = 0 := by omega
   rw [Nat.mul_one, Nat.add_zero, k1]; rfl
  ·rename_i n f i x
   obtain ⟨rfl, rfl, rfl, hf⟩ := h
   refine ⟨⟨h1, h2, h3, h3', h3''⟩, ⟨h4, LV.ok_mono (fun _ _ => rfl) hD ((LV.ok_ren ρ D ι x).1 h5)⟩, cs, t, h6, h7, fun j hj => ?_⟩
   rw [<- hf j hj, <- LV.at_ren]
   exact h8 j hj
 | dp o' d' =>
  cases e <;> simp only [ZCe] at h
  rename_i o d
  have h : ((o = true -> o' = true) /\ d' = d) \/ ((o = true -> o' = true) /\ ZFV d' d) := by
   rcases h with (h | ⟨h, h'⟩) | ⟨h, h'⟩
   ·exact .inl h
   ·exact .inr ⟨fun _ => h, h'⟩
   ·exact .inr ⟨fun e => (by rw [h] at e; cases e), h'⟩
  rcases h with ⟨ho, rfl⟩ | ⟨ho, hd⟩
  ·obtain ⟨h1, wd, n, f, Fr, Fc, h2, h3, h4, h5⟩ := hE
   exact ⟨h1, wd, n, f, Fr, Fc, h2, h3, fun hh => h4 (ho hh), h5⟩
  ·obtain ⟨h1, wd, n, f, Fr, Fc, rfl, h3, h4, h5, h6⟩ := hE
   cases d with
   | v x => exact hd.elim
   | sl wd2 n2 f2 =>
    refine ⟨h1, wd2, n2, f2, Fr, Fc, rfl, h3, fun hh => ?_, fun p wd3 n3 f3 ht hq => ?_, fun p i c ht => ?_⟩
    ·obtain ⟨k1, k2⟩ := h4 (ho hh)
     refine ⟨k1, ?_⟩
     obtain ⟨rfl, rfl, he⟩ := hd
     have hrow : ∀ i, i < n -> ZBA l.sub wd f2 i = ZBA l.sub wd f i := fun i hi => by
      unfold ZBA
      refine List.map_congr_left fun c hc => ?_
      exact (he i hi c (List.mem_range.1 hc)).val.symm
     rcases k2 with k2 | ⟨m1, m2, m3, m4, m5, cs, t, m6, m7, m8⟩
     ·exact .inl k2
     ·exact .inr ⟨m1, m2, m3, m4, m5, cs, t, m6, m7, fun i hi => by rw [hrow i hi]; exact m8 i hi⟩
    ·have he := hd.node h6 p ht
     rw [hq] at he
     cases hq' : ZAv (.sl wd n f) p with
     | v x => rw [hq'] at he; exact he.elim
     | sl w4 n4 f4 =>
      rw [hq'] at he
      obtain ⟨rfl, rfl, he⟩ := he
      obtain ⟨k1, k2, k3⟩ := h5 p _ _ _ ht hq'
      refine ⟨k1, k2, fun i hi => ⟨(k3 i hi).1, (k3 i hi).2.1, fun c hc => ?_⟩⟩
      obtain ⟨k4, k5, k6⟩ := (k3 i hi).2.2 c hc
      have hec := he i hi c hc
      rw [<- hec.val]
      refine ⟨k4, k5, fun w5 n5 f5 hf => ?_⟩
      rw [hf] at hec
      cases hf4 : f4 i c with
      | v x => rw [hf4] at hec; exact hec.elim
      | sl w6 n6 f6 => exact k6 _ _ _ hf4
    ·obtain ⟨k1, w3, n3, f3, k2, k3, k4⟩ := h6 p i c ht
     have he := hd.node h6 p k1
     rw [k2] at he
     cases hq : ZAv (.sl wd2 n2 f2) p with
     | v x => rw [hq] at he; exact he.elim
     | sl w4 n4 f4 =>
      rw [hq] at he
      obtain ⟨rfl, rfl, _⟩ := he
      exact ⟨k1, _, _, _, rfl, k3, k4⟩
theorem ZBl.ren {ι : Nat -> Nat} {e : Ent} {ρ : Env} {D D' : Nat -> Prop} {l : Loc} {F : List Nat} {w : World} (hD : ∀ k, D' k -> D (ι k)) (hE : ZBl e (fun k => ρ (ι k)) D' l F w) : ZBl (e.ren ι) ρ D l F w := by
 cases e with
 | st cs =>
  obtain ⟨h1, h2, h3, ⟨t, h4⟩, h5⟩ := hE
  refine ⟨h1, h2, h3, ⟨t, ?_⟩, fun x hx => ?_⟩
  ·rw [h4]; congr 2; simp [Function.comp_def, LV.at_ren]
  ·obtain ⟨y, hy, rfl⟩ := List.mem_map.1 hx
   exact (LV.ok_ren ρ D ι y).2 (LV.ok_mono (fun _ _ => rfl) hD (h5 y hy))
 | ar => exact hE
 | ro => exact hE
 | ob ks R =>
  obtain ⟨h1, h2, h3⟩ := hE
  have e : (ks.map ι).map ρ = ks.map fun k => ρ (ι k) := by rw [List.map_map]; rfl
  rw [<- e] at h1 h3
  exact ⟨h1, fun k hk => (by obtain ⟨j, hj, rfl⟩ := List.mem_map.1 hk; exact hD j (h2 j hj)), h3⟩
 | rd => exact hE
 | dp => exact hE
 | mp q qe M s o =>
  obtain ⟨h1, h2, es, clock, h3, h4, h5, h6, h7, h8⟩ := hE
  cases o with
  | none => exact ⟨h1, h2, es, clock, h3, h4, h5, h6, h7, trivial⟩
  | some p => exact ⟨h1, h2, es, clock, h3, h4, h5, h6, h7, hD _ h8.1, h8.2⟩
 | hl n f i x =>
  obtain ⟨h1, ⟨h4, h5⟩, cs, t, h6, h7, h8⟩ := hE
  refine ⟨h1, ⟨h4, (LV.ok_ren ρ D ι x).2 (LV.ok_mono (fun _ _ => rfl) hD h5)⟩, cs, t, h6, h7, ?_⟩
  rw [LV.at_ren]; exact h8
def ZEB : Heap -> Nat -> Option (Option Ent)
 | [], _ => none
 | (t, x) :: rest, u => bif Nat.beq t u then some x else ZEB rest u
theorem ZCJ (k : Nat) (e : Option Ent) (h : Heap) (u : Nat) : ZEB ((k, e) :: h) u = if k = u then some e else ZEB h u := by
 simp only [ZEB]
 by_cases hk : k = u
 ·subst hk; simp
 ·have : Nat.beq k u = false := by
   cases hb : Nat.beq k u with
   | true => exact absurd (Nat.eq_of_beq_eq_true hb) hk
   | false => rfl
  simp [this, hk]
theorem ZEu : ∀ (l1 l2 : Heap) (j : Nat), hget (l1 ++ l2) j = match ZEB l1 j with | some x => x | none => hget l2 j
 | [], _, _ => rfl
 | (k, e) :: l1, l2, j => by
  rw [List.cons_append, ZAJ, ZCJ]
  by_cases hk : k = j
  ·simp [hk]
  ·simp only [if_neg hk]; exact ZEu l1 l2 j
theorem ZGs : ∀ (l : Heap) (j : Nat), hget l j = match ZEB l j with | some x => x | none => none
 | [], _ => rfl
 | (k, e) :: l, j => by
  rw [ZAJ, ZCJ]
  by_cases hk : k = j
  ·simp [hk]
  ·simp only [if_neg hk]; exact ZGs l j
theorem ZKC : ∀ {l : Heap} {j : Nat} {x : Option Ent}, ZEB l j = some x -> (j, x) ∈ l
 | [], _, _, h => by simp [ZEB] at h
 | (k, e) :: l, j, x, h => by
  rw [ZCJ] at h
  split at h
  ·rename_i hk; subst hk; simp at h; subst h; simp
  ·exact List.mem_cons_of_mem _ (ZKC h)
theorem ZEC : ∀ {l : Heap} {j : Nat} {x : Option Ent}, (j, x) ∈ l -> ∃ y, ZEB l j = some y
 | (k, e) :: l, j, x, h => by
  rw [ZCJ]
  by_cases hk : k = j
  ·exact ⟨e, by simp [hk]⟩
  ·rcases List.mem_cons.1 h with h | h
   ·cases h; exact absurd rfl hk
   ·obtain ⟨y, hy⟩ := ZEC h
    exact ⟨y, by simp [hk, hy]⟩
theorem ZAa {l : Heap} {j : Nat} {e : Ent} (h : hget l j = some e) : (j, some e) ∈ l := by
 rw [ZGs] at h
 split at h
 ·rename_i x hx; subst h; exact ZKC hx
 ·cases h
def renH (ι : Nat -> Nat) (h : Heap) : Heap := h.map fun p => (ι p.1, p.2.map (Ent.ren ι))
def ownO : Option Ent -> Bool
 | some e => e.own
 | none => false
def tomb (ι : Nat -> Nat) : Heap -> Heap
 | [] => []
 | (k, e) :: rest => match ownO e with
  | true => (ι k, none) :: tomb ι rest
  | false => tomb ι rest
theorem ZIu {ι : Nat -> Nat} : ∀ {h : Heap} {k : Nat} {e : Option Ent}, (k, e) ∈ h -> ownO e = true -> (ι k, (none : Option Ent)) ∈ tomb ι h
 | (k', e') :: h, k, e, hm, ho => by
  rcases List.mem_cons.1 hm with hm | hm
  ·cases hm; simp [tomb, ho]
  ·simp only [tomb]
   split
   ·exact List.mem_cons_of_mem _ (ZIu hm ho)
   ·exact ZIu hm ho
theorem ZGt {ι : Nat -> Nat} : ∀ {h : Heap} {j : Nat} {x : Option Ent}, ZEB (tomb ι h) j = some x -> x = none
 | [], j, x, hx => by simp [tomb, ZEB] at hx
 | (k', e') :: h, j, x, hx => by
  simp only [tomb] at hx
  split at hx
  ·rw [ZCJ] at hx
   split at hx
   ·simpa using hx.symm
   ·exact ZGt hx
  ·exact ZGt hx
def ZBB (ι : Nat -> Nat) (h : Heap) : Heap -> Prop
 | [] => True
 | (k, some e) :: rest => (match hget h (ι k) with | some e' => ZCe ι e' e | none => False) /\ ZBB ι h rest
 | (_, none) :: rest => ZBB ι h rest
theorem ZBB.get {ι : Nat -> Nat} {h : Heap} : ∀ {l : Heap} {k : Nat} {e : Ent}, ZBB ι h l -> (k, some e) ∈ l -> ∃ e', hget h (ι k) = some e' /\ ZCe ι e' e
 | (k', some e') :: l, k, e, ha, hm => by
  rcases List.mem_cons.1 hm with hm | hm
  ·cases hm
   have := ha.1
   split at this
   ·rename_i e2 h2; exact ⟨e2, h2, this⟩
   ·exact this.elim
  ·exact ZBB.get ha.2 hm
 | (k', none) :: l, k, e, ha, hm => by
  rcases List.mem_cons.1 hm with hm | hm
  ·cases hm
  ·exact ZBB.get (l := l) ha hm
def ZBv (ι : Nat -> Nat) (pre : Heap) : Bool :=
 pre.all fun p => pre.all fun q => (p.1 == q.1) || !(ownO p.2 || ownO q.2) || !(ι p.1 == ι q.1) || p.2.isNone || q.2.isNone
theorem ZGu {ι : Nat -> Nat} {pre : Heap} (h : ZBv ι pre = true) {k k' : Nat} {e e' : Ent} (hk : (k, some e) ∈ pre) (hk' : (k', some e') ∈ pre) (hne : k ≠ k') (ho : ownO (some e) = true \/ ownO (some e') = true) : ι k ≠ ι k' := by
 unfold ZBv at h
 rw [List.all_eq_true] at h
 have h1 := h _ hk
 rw [List.all_eq_true] at h1
 have h2 := h1 _ hk'
 simp only [Bool.or_eq_true, beq_iff_eq, Bool.not_eq_true', Bool.or_eq_false_iff, beq_eq_false_iff_ne, Option.isNone_some, Bool.false_eq_true, or_false] at h2
 rcases h2 with (h2 | h2) | h2
 ·exact absurd h2 hne
 ·rcases ho with ho | ho
  ·rw [ho] at h2; cases h2.1
  ·rw [ho] at h2; cases h2.2
 ·exact h2
def ZKD : Heap -> Bool
 | [] => true
 | (k, _) :: rest => rest.all (fun q => !(k == q.1)) && ZKD rest
theorem ZHp : ∀ {l : Heap} {k : Nat} {x : Option Ent}, ZKD l = true -> (k, x) ∈ l -> ZEB l k = some x
 | (k', x') :: l, k, x, hn, hm => by
  simp only [ZKD, Bool.and_eq_true, List.all_eq_true] at hn
  rw [ZCJ]
  rcases List.mem_cons.1 hm with hm | hm
  ·cases hm; simp
  ·have := hn.1 _ hm
   simp only [Bool.not_eq_true', beq_eq_false_iff_ne] at this
   rw [if_neg this]
   exact ZHp hn.2 hm
def ZEv (ι : Nat -> Nat) (m : Nat) (h : Heap) : Bool :=
 ZKD h && h.all fun p => ownO p.2 && decide (p.1 < m) && h.all fun q => (p.1 == q.1) || !(ι p.1 == ι q.1)
theorem ZHq {ι : Nat -> Nat} {m : Nat} {h : Heap} (hb : ZEv ι m h = true) {k : Nat} {e : Option Ent} (hk : (k, e) ∈ h) : ownO e = true /\ k < m /\ (∀ k' e', (k', e') ∈ h -> ι k = ι k' -> k = k') /\ ZEB h k = some e := by
 unfold ZEv at hb
 rw [Bool.and_eq_true, List.all_eq_true] at hb
 have h1 := hb.2 _ hk
 simp only [Bool.and_eq_true] at h1
 refine ⟨h1.1.1, by simpa using h1.1.2, fun k' e' hk' hi => ?_, ZHp hb.1 hk⟩
 have h2 := h1.2
 rw [List.all_eq_true] at h2
 have h3 := h2 _ hk'
 simp only [Bool.or_eq_true, beq_iff_eq, Bool.not_eq_true', beq_eq_false_iff_ne] at h3
 rcases h3 with h3 | h3
 ·exact h3
 ·exact absurd hi h3
def Own (h : Heap) (φ : Nat -> List Nat) (b : Nat) : Prop := ∃ k e, hget h k = some e /\ e.own = true /\ b ∈ φ k
theorem GM.ownGlob {G : Ctx} {h : Heap} {D : Nat -> Prop} {ρ : Env} {φ : Nat -> List Nat} {w : World} (g : GM G h D ρ φ w) : ZP4 (Own h φ) := fun b vs hb ⟨k, e, hk, ho, hbk⟩ => by
 rcases g.ow k e hk ho b hbk with h3 | h3
 ·exact g.gb.2 b vs hb h3
 ·obtain ⟨t, h4⟩ := g.gb.1 b vs hb
  have := (Array.getElem?_eq_some_iff.1 h4).1
  omega
def ZAE (P : Program) (f : FuncId) (pre : Heap) (np : Nat) (args : List AV) (Q : SV -> Heap -> Nat -> Prop) : Prop :=
 ZCS P f = true /\ ∀ ρ φ w, HM pre (lt np) ρ φ w -> (∀ x ∈ args, x.ok ρ (lt np)) -> ZP3 w -> ZP4 (Own pre φ) -> Calls P f (args.map (AV.at ρ)).toArray w fun e w' =>
  ∃ x h' n' ρ' φ', e = .returned (x.at ρ') /\ Q x h' n' /\ np <= n' /\ (∀ k, k < np -> ρ' k = ρ k) /\ HM h' (lt n') ρ' φ' w' /\ x.ok ρ' (lt n') /\ Frm w (Own pre φ) w' /\
   ∀ k e, hget h' k = some e -> e.own = true -> ∀ b ∈ φ' k, Own pre φ b \/ w.heap.size <= b
theorem ZAE.mono {P : Program} {f : FuncId} {pre : Heap} {np : Nat} {args : List AV} {Q Q' : SV -> Heap -> Nat -> Prop} (h : ZAE P f pre np args Q) (hq : ∀ x h n, Q x h n -> Q' x h n) : ZAE P f pre np args Q' :=
 ⟨h.1, fun ρ φ w hm hok hgw hgf => (h.2 ρ φ w hm hok hgw hgf).mono fun e w' ⟨x, h', n', ρ', φ', he, hx, hr⟩ => ⟨x, h', n', ρ', φ', he, hq _ _ _ hx, hr⟩⟩
def ren1 (l : List Nat) (n : Nat) : Nat -> Nat := fun k => match nth l k with | some j => j | none => n
def ren2 (l : List Nat) (n : Nat) : Nat -> Nat := fun k => match nth l k with | some j => j | none => n + (k - l.length)
theorem ZMB {l : List Nat} {n k : Nat} (h : k < l.length) : ren2 l n k = ren1 l n k := by
 simp [ren1, ren2, ZAc, h]
theorem ZQA {l : List Nat} {n k : Nat} (h : l.length <= k) : ren2 l n k = n + (k - l.length) := by
 simp [ren2, ZAc, List.getElem?_eq_none h]
theorem ZO0 {l : List Nat} {n : Nat} (hl : l.all (fun j => decide (j < n)) = true) {k : Nat} (h : k < l.length) : ren1 l n k < n := by
 rw [List.all_eq_true] at hl
 have := hl l[k] (List.getElem_mem h)
 simp only [ren1, ZAc, List.getElem?_eq_getElem h]
 simpa using this
theorem ZCf {l : List Nat} {n k : Nat} (h : ren1 l n k < n) : k < l.length := by
 apply Classical.byContradiction
 intro hk
 simp only [ren1, ZAc, List.getElem?_eq_none (Nat.le_of_not_lt hk)] at h
 exact Nat.lt_irrefl _ h
theorem ZHr {ι : Nat -> Nat} : ∀ {h : Heap} {j : Nat} {x : Option Ent}, ZEB (renH ι h) j = some x -> ∃ k e, (k, e) ∈ h /\ ι k = j /\ x = e.map (Ent.ren ι)
 | [], j, x, hx => by simp [renH, ZEB] at hx
 | (k, e) :: h, j, x, hx => by
  simp only [renH, List.map_cons] at hx
  rw [ZCJ] at hx
  split at hx
  ·rename_i hk; simp at hx; exact ⟨k, e, by simp, hk, hx.symm⟩
  ·obtain ⟨k', e', h1, h2, h3⟩ := ZHr (h := h) hx
   exact ⟨k', e', List.mem_cons_of_mem _ h1, h2, h3⟩
open Classical in
theorem ZIv {h : Heap} {n : Nat} {ρ : Env} {φ : Nat -> List Nat} {w : World} (g : HM h (lt n) ρ φ w) (l : List Nat) {pre : Heap} (hl : l.all (fun j => decide (j < n)) = true) (hpre : ZBB (ren1 l n) h pre)
  {h' : Heap} {n' : Nat} {ρ' : Env} {φ' : Nat -> List Nat} {w' : World} (hnp : l.length <= n') (hρ : ∀ k, k < l.length -> ρ' k = ρ (ren1 l n k)) (hm : HM h' (lt n') ρ' φ' w') (hfrm : Frm w (Own pre fun k => φ (ren1 l n k)) w')
  (how : ∀ k e, hget h' k = some e -> e.own = true -> ∀ b ∈ φ' k, Own pre (fun k => φ (ren1 l n k)) b \/ w.heap.size <= b) (hpost : ZEv (ren2 l n) n' h' = true) :
  ∃ ρ2 φ2, (∀ k, k < n -> ρ2 k = ρ k) /\ (∀ k, k < n' -> ρ2 (ren2 l n k) = ρ' k) /\ (∀ k, k < n' -> ren2 l n k < n + (n' - l.length)) /\ HM ((renH (ren2 l n) h' ++ tomb (ren1 l n) pre) ++ h) (lt (n + (n' - l.length))) ρ2 φ2 w' /\
   (∀ j e2, hget ((renH (ren2 l n) h' ++ tomb (ren1 l n) pre) ++ h) j = some e2 -> e2.own = true -> ∀ b ∈ φ2 j, Own h φ b \/ w.heap.size <= b) /\
   (∀ j e2, hget ((renH (ren2 l n) h' ++ tomb (ren1 l n) pre) ++ h) j = some e2 -> ∀ b ∈ φ2 j, (∃ k e, hget h k = some e /\ b ∈ φ k) \/ w.heap.size <= b) /\ ∀ b, Own pre (fun k => φ (ren1 l n k)) b -> Own h φ b := by
 generalize hι : ren1 l n = ι at *
 have hlt : ∀ k, k < l.length -> ι k < n := fun k hk => by rw [<- hι]; exact ZO0 hl hk
 generalize hι' : ren2 l n = ι' at *
 have hold : ∀ k, k < l.length -> ι' k = ι k := fun k hk => by rw [<- hι', <- hι]; exact ZMB hk
 have hnew' : ∀ k, l.length <= k -> ι' k = n + (k - l.length) := fun k hk => by rw [<- hι']; exact ZQA hk
 let ρ2 : Env := fun j => if j < n then ρ j else ρ' (j - n + l.length)
 let φ2 : Nat -> List Nat := fun j => if hj : ∃ k e, (k, e) ∈ h' /\ ι' k = j then φ' (Classical.choose hj) else φ j
 have hρ2 : ∀ k, k < n' -> ρ2 (ι' k) = ρ' k := fun k hk => by
  by_cases h1 : k < l.length
  ·simp only [hold k h1, ρ2, if_pos (hlt k h1)]; exact (hρ k h1).symm
  ·have h2 : l.length <= k := by omega
   simp only [hnew' k h2, ρ2]
   rw [if_neg (by omega)]
   congr 1; omega
 have hι'lt : ∀ k, k < n' -> ι' k < n + (n' - l.length) := fun k hk => by
  by_cases h1 : k < l.length
  ·rw [hold k h1]; have := hlt k h1; omega
  ·rw [hnew' k (by omega)]; omega
 have hι'lt' : ∀ k, ι' k < n + (n' - l.length) -> k < n' := fun k hk => by
  by_cases h1 : k < l.length
  ·omega
  ·rw [hnew' k (by omega)] at hk; omega
 have hφ2 : ∀ k e, (k, e) ∈ h' -> φ2 (ι' k) = φ' k := fun k e hk => by
  have hex : ∃ k' e', (k', e') ∈ h' /\ ι' k' = ι' k := ⟨k, e, hk, rfl⟩
  simp only [φ2, dif_pos hex]
  obtain ⟨e', h1, h2⟩ := Classical.choose_spec hex
  have := (ZHq hpost h1).2.2.1 k e hk h2
  rw [this]
 have hφ2o : ∀ j, (¬ ∃ k e, (k, e) ∈ h' /\ ι' k = j) -> φ2 j = φ j := fun j hj => by simp only [φ2, dif_neg hj]
 have howner : ∀ b, Own pre (fun k => φ (ι k)) b -> ∃ k0 e0 e1, hget pre k0 = some e0 /\ e0.own = true /\ hget h (ι k0) = some e1 /\ e1.own = true /\ b ∈ φ (ι k0) := fun b ⟨k, e, h1, h2, h3⟩ => by
  obtain ⟨e', h4, h5⟩ := hpre.get (ZAa h1)
  exact ⟨k, e, e', h1, h2, h4, h5.own h2, h3⟩
 -- what lies in the new memory
 have hnew : ∀ j e2, hget ((renH ι' h' ++ tomb ι pre) ++ h) j = some e2 -> (∃ k e0, (k, some e0) ∈ h' /\ hget h' k = some e0 /\ e0.own = true /\ k < n' /\ ι' k = j /\ e2 = e0.ren ι') \/
   ((¬ ∃ k e, (k, e) ∈ h' /\ ι' k = j) /\ (∀ k e, (k, e) ∈ pre -> ownO e = true -> ι k ≠ j) /\ hget h j = some e2) := by
  intro j e2 hj
  rw [List.append_assoc, ZEu] at hj
  cases hO : ZEB (renH ι' h') j with
  | some x =>
   rw [hO] at hj
   obtain ⟨k, e, h1, h2, h3⟩ := ZHr hO
   simp only at hj
   subst hj
   cases e with
   | none => simp at h3
   | some e0 =>
    simp at h3
    obtain ⟨q1, q2, q3, q4⟩ := ZHq hpost h1
    exact .inl ⟨k, e0, h1, by rw [ZGs, q4], q1, q2, h2, h3⟩
  | none =>
   rw [hO] at hj
   simp only at hj
   rw [ZEu] at hj
   have hno : ¬ ∃ k e, (k, e) ∈ h' /\ ι' k = j := fun ⟨k, e, h1, h2⟩ => by
    obtain ⟨y, hy⟩ := ZEC (l := renH ι' h') (j := j) (x := e.map (Ent.ren ι')) (List.mem_map.2 ⟨(k, e), h1, by rw [h2]⟩)
    rw [hO] at hy; cases hy
   cases hT : ZEB (tomb ι pre) j with
   | some x =>
    rw [hT] at hj
    have := ZGt hT
    subst this
    cases hj
   | none =>
    rw [hT] at hj
    refine .inr ⟨hno, fun k e hk ho heq => ?_, hj⟩
    obtain ⟨y, hy⟩ := ZEC (ZIu (ι := ι) hk ho)
    rw [heq, hT] at hy; cases hy
 have hfar : ∀ j e2, hget h j = some e2 -> (∀ k e, (k, e) ∈ pre -> ownO e = true -> ι k ≠ j) -> ∀ b ∈ φ j, ¬ Own pre (fun k => φ (ι k)) b := fun j e2 hj hno b hb hown => by
  obtain ⟨k0, e0, e1, h1, h2, h3, h4, h5⟩ := howner b hown
  exact g.dj (ι k0) j e1 e2 h3 hj (hno k0 (some e0) (ZAa h1) h2) h4 b h5 hb
 refine ⟨ρ2, φ2, fun k hk => if_pos hk, hρ2, hι'lt, ⟨fun j e2 hj => ?_, fun j e2 hj => ?_, fun j j' e2 e2' hj hj' hne ho b hb hb' => ?_, fun j e2 hj b hb => ?_⟩, fun j e2 hj ho b hb => ?_, fun j e2 hj b hb => ?_, fun b hown => ?_⟩
 ·rcases hnew j e2 hj with ⟨k, e0, h1, h2, h3, h4, rfl, rfl⟩ | ⟨h1, h2, h3⟩
  ·rw [hφ2 k _ h1, hρ2 k h4]
   refine ZBl.ren (D' := lt n') (fun k hk => hι'lt k hk) ?_
   exact ZBl.mono (fun k hk => hρ2 k hk) (fun _ h => h) (fun _ _ => rfl) (hm.at_ k e0 h2)
  ·have hjn : j < n := g.lt j e2 h3
   rw [hφ2o j h1, show ρ2 j = ρ j from if_pos hjn]
   refine ZBl.mono (fun k hk => if_pos hk) (fun k hk => Nat.lt_of_lt_of_le hk (Nat.le_add_right _ _)) (fun b hb => ?_) (g.at_ j e2 h3)
   exact hfrm.blk b (g.sz j e2 h3 b hb) (hfar j e2 h3 h2 b hb)
 ·rcases hnew j e2 hj with ⟨k, e0, h1, h2, h3, h4, rfl, rfl⟩ | ⟨h1, h2, h3⟩
  ·exact hι'lt k h4
  ·exact Nat.lt_of_lt_of_le (g.lt j e2 h3) (Nat.le_add_right _ _)
 ·rcases hnew j e2 hj with ⟨k, e0, h1, h2, h3, h4, rfl, rfl⟩ | ⟨h1, h2, h3⟩
  ·rw [hφ2 k _ h1] at hb
   rcases hnew j' e2' hj' with ⟨k', e0', h1', h2', h3', h4', rfl, rfl⟩ | ⟨h1', h2', h3'⟩
   ·rw [hφ2 k' _ h1'] at hb'
    exact hm.dj k k' e0 e0' h2 h2' (fun hc => hne (by rw [hc])) h3 b hb hb'
   ·rw [hφ2o j' h1'] at hb'
    rcases how k e0 h2 h3 b hb with h5 | h5
    ·exact hfar j' e2' h3' h2' b hb' h5
    ·have := g.sz j' e2' h3' b hb'; omega
  ·rw [hφ2o j h1] at hb
   rcases hnew j' e2' hj' with ⟨k', e0', h1', h2', h3', h4', rfl, rfl⟩ | ⟨h1', h2', h3'⟩
   ·rw [hφ2 k' _ h1'] at hb'
    rcases how k' e0' h2' h3' b hb' with h5 | h5
    ·exact hfar j e2 h3 h2 b hb h5
    ·have := g.sz j e2 h3 b hb; omega
   ·rw [hφ2o j' h1'] at hb'
    exact g.dj j j' e2 e2' h3 h3' hne ho b hb hb'
 ·rcases hnew j e2 hj with ⟨k, e0, h1, h2, h3, h4, rfl, rfl⟩ | ⟨h1, h2, h3⟩
  ·rw [hφ2 k _ h1] at hb
   exact hm.sz k e0 h2 b hb
  ·rw [hφ2o j h1] at hb
   exact Nat.lt_of_lt_of_le (g.sz j e2 h3 b hb) hfrm.size
 ·rcases hnew j e2 hj with ⟨k, e0, h1, h2, h3, h4, rfl, rfl⟩ | ⟨h1, h2, h3⟩
  ·rw [hφ2 k _ h1] at hb
   rcases how k e0 h2 h3 b hb with h5 | h5
   ·obtain ⟨k0, e1, e3, q1, q2, q3, q4, q5⟩ := howner b h5
    exact .inl ⟨_, e3, q3, q4, q5⟩
   ·exact .inr h5
  ·rw [hφ2o j h1] at hb
   exact .inl ⟨j, e2, h3, ho, hb⟩
 ·rcases hnew j e2 hj with ⟨k, e0, h1, h2, h3, h4, rfl, rfl⟩ | ⟨h1, h2, h3⟩
  ·rw [hφ2 k _ h1] at hb
   rcases how k e0 h2 h3 b hb with h5 | h5
   ·obtain ⟨k0, e1, e3, q1, q2, q3, q4, q5⟩ := howner b h5
    exact .inl ⟨_, e3, q3, q5⟩
   ·exact .inr h5
  ·rw [hφ2o j h1] at hb
   exact .inl ⟨j, e2, h3, hb⟩
 ·obtain ⟨k0, e1, e3, q1, q2, q3, q4, q5⟩ := howner b hown
  exact ⟨_, e3, q3, q4, q5⟩
theorem ZLT {h pre : Heap} {n : Nat} {ρ : Env} {φ : Nat -> List Nat} {w : World} (g : HM h (lt n) ρ φ w) (l : List Nat) (hpre : ZBB (ren1 l n) h pre) (hap : ZBv (ren1 l n) pre = true) : HM pre (lt l.length) (fun k => ρ (ren1 l n k)) (fun k => φ (ren1 l n k)) w := {
  at_ := fun k e hk => by
   obtain ⟨e', h1, h2⟩ := hpre.get (ZAa hk)
   exact h2.at_ (fun k hk => ZCf hk) (g.at_ _ e' h1)
  lt := fun k e hk => by
   obtain ⟨e', h1, h2⟩ := hpre.get (ZAa hk)
   exact ZCf (g.lt _ e' h1)
  dj := fun k k' e e' hk hk' hne ho b hb => by
   obtain ⟨e1, h1, h2⟩ := hpre.get (ZAa hk)
   obtain ⟨e2, h3, h4⟩ := hpre.get (ZAa hk')
   exact g.dj _ _ e1 e2 h1 h3 (ZGu hap (ZAa hk) (ZAa hk') hne (.inl ho)) (h2.own ho) b hb
  sz := fun k e hk b hb => by
   obtain ⟨e', h1, h2⟩ := hpre.get (ZAa hk)
   exact g.sz _ e' h1 b hb }
theorem ZGL {G : Ctx} {h h2 : Heap} {n n2 : Nat} {ρ ρ2 : Env} {φ φ2 : Nat -> List Nat} {w w2 : World} (g : GM G h (lt n) ρ φ w) (hn : n <= n2) (hρ : ∀ k, k < n -> ρ2 k = ρ k) (hm : HM h2 (lt n2) ρ2 φ2 w2) (hf : Frm w (Own h φ) w2)
  (how : ∀ j e2, hget h2 j = some e2 -> e2.own = true -> ∀ b ∈ φ2 j, Own h φ b \/ w.heap.size <= b) (hfx : ∀ j e2, hget h2 j = some e2 -> ∀ b ∈ φ2 j, (∃ k e, hget h k = some e /\ b ∈ φ k) \/ w.heap.size <= b) : GM G h2 (lt n2) ρ2 φ2 w2 := by
 have own : ∀ b, Own h φ b -> G.F0 b \/ G.w0.heap.size <= b := fun b ⟨k, e, hk, ho, hb⟩ => g.ow k e hk ho b hb
 refine ⟨hm, fun k hk => ⟨Nat.lt_of_lt_of_le (g.an k hk).1 hn, by rw [hρ k (g.an k hk).1]; exact (g.an k hk).2⟩, fun k e hk ho b hb => ?_, ?_, fun k e hk b hb => ?_, g.gb⟩
 ·rcases how k e hk ho b hb with h1 | h1
  ·exact own b h1
  ·exact .inr (Nat.le_trans g.frm.size h1)
 ·refine ⟨Nat.le_trans g.frm.size hf.size, fun b hb hn => ?_, hf.os.trans g.frm.os, hf.tape.trans g.frm.tape, hf.output.trans g.frm.output⟩
  rw [hf.blk b (Nat.lt_of_lt_of_le hb g.frm.size) fun hown => ?_]
  ·exact g.frm.blk b hb hn
  ·rcases own b hown with h6 | h6
   ·exact hn h6
   ·omega
 ·rcases hfx k e hk b hb with ⟨k0, e0, h1, h2⟩ | h1
  ·exact g.fx k0 e0 h1 b h2
  ·exact .inr (.inr (Nat.le_trans g.frm.size h1))
theorem ZNJ {G : Ctx} {f : FuncId} {pre : Heap} {np : Nat} {args : List AV} {Q : SV -> Heap -> Nat -> Prop} (hsp : ZAE G.P f pre np args Q) (l : List Nat) {xs : List AV} {h : Heap} {n : Nat} {K : SV -> Heap -> Nat -> Prop}
  (hnp : l.length = np) (hl : l.all (fun j => decide (j < n)) = true) (hxs : xs = args.map (AV.ren (ren1 l n))) (hpre : ZBB (ren1 l n) h pre) (hap : ZBv (ren1 l n) pre = true)
  (hK : ∀ x h' n', Q x h' n' -> ZEv (ren2 l n) n' h' = true /\ K (x.ren (ren2 l n)) (renH (ren2 l n) h' ++ tomb (ren1 l n) pre) (n + (n' - np))) : CallP G f xs h n K := by
 subst hnp
 rw [ZCd]
 refine ⟨hsp.1, fun G' hG' ρ φ w g hok => ?_⟩
 subst hxs
 have hok' : ∀ x ∈ args, x.ok (fun k => ρ (ren1 l n k)) (lt l.length) := fun x hx => by
  have := (AV.ok_ren ρ (lt n) (ren1 l n) x).1 (hok _ (List.mem_map.2 ⟨x, hx, rfl⟩))
  exact AV.ok_mono (fun _ _ => rfl) (fun k hk => ZCf hk) this
 have hcall := hsp.2 _ _ w (ZLT g.hm l hpre hap) hok' g.glob (fun b vs hb ⟨k, e, hk, ho, hbk⟩ => by
  obtain ⟨e', h1, h2⟩ := hpre.get (ZAa hk)
  rcases g.ow _ e' h1 (h2.own ho) b hbk with h3 | h3
  ·exact g.gb.2 b vs hb h3
  ·obtain ⟨t, h4⟩ := g.gb.1 b vs hb
   have := (Array.getElem?_eq_some_iff.1 h4).1
   omega)
 have hargs : (args.map (AV.ren (ren1 l n))).map (AV.at ρ) = args.map (AV.at fun k => ρ (ren1 l n k)) := by simp [Function.comp_def, AV.at_ren]
 rw [hargs]
 refine hcall.mono fun e w' ⟨x, h', n', ρ', φ', he, hQ, hnp, hρ, hm, hxok, hfrm, how⟩ => ?_
 obtain ⟨hpost, hKK⟩ := hK x h' n' hQ
 obtain ⟨ρ2, φ2, a1, a2, a3, a4, a5, a6, a7⟩ := ZIv g.hm l hl hpre hnp hρ hm hfrm how hpost
 refine ⟨x.ren (ren2 l n), _, n + (n' - l.length), ρ2, φ2, ?_, hKK, Nat.le_add_right _ _, a1, ZGL g (Nat.le_add_right _ _) a1 a4 ⟨hfrm.size, fun b hb hn => hfrm.blk b hb fun ho => hn (a7 b ho), hfrm.os, hfrm.tape, hfrm.output⟩ a5 a6, ?_⟩
 ·rw [he, SV.at_ren]
  congr 1
  exact (SV.at_mono (D := lt n') (fun k hk => a2 k hk) hxok).symm
 ·refine (SV.ok_ren ρ2 _ (ren2 l n) x).2 ?_
  exact SV.ok_mono (fun k hk => a2 k hk) (fun k hk => a3 k hk) hxok
end Go.Sx
