/- part -/
import Derived.Test.YtlkfolopbehikaaGreatSxK
import Derived.Laws.StructEq
import Derived.ChangeKeysEq
set_option linter.unusedSimpArgs false
set_option linter.unusedVariables false
set_option linter.unusedSectionVars false
namespace Go.Sx
open Go
theorem ZL9 (z : List Value) : ∀ (m q : Nat), q < m * z.length -> ((List.replicate m z).flatten)[q]? = z[q % z.length]?
 | 0, q, h => by simp at h
 | m + 1, q, h => by
  rw [List.replicate_succ, List.flatten_cons]
  by_cases hq : q < z.length
  ·rw [List.getElem?_append_left hq, Nat.mod_eq_of_lt hq]
  ·rw [List.getElem?_append_right (by omega), ZL9 z m _ (by rw [Nat.add_mul] at h; omega)]
   congr 1
   conv => rhs; rw [show q = (q - z.length) + z.length by omega, Nat.add_mod_right]
theorem ZGp (z : List Value) (m : Nat) : ((List.replicate m z).flatten).length = m * z.length := by simp
theorem ZOr (z : List Value) (m : Nat) (zc : Array Value) (hz : zc.toList = z) : madeCells zc (m * z.length) = ((List.replicate m z).flatten).toArray := by
 apply Array.ext'
 apply List.ext_getElem?
 intro q
 by_cases hq : q < m * z.length
 ·rw [List.toList_toArray, ZL9 z m q hq]
  have hpos : 0 < z.length := by
   rcases Nat.eq_zero_or_pos z.length with h0 | h0
   ·rw [h0, Nat.mul_zero] at hq; omega
   ·exact h0
  have hsz : zc.size = z.length := by rw [<- hz]; simp
  have hlt : q % z.length < z.length := Nat.mod_lt _ hpos
  simp only [madeCells, Array.getElem?_toList, Array.getElem?_map, Array.getElem?_range, hq, if_true, Option.map_some, hsz]
  have : q % z.length < zc.size := by omega
  subst hz
  rw [getElem!_pos zc _ (by simpa using this)]
  simp [this]
 ·rw [List.getElem?_eq_none (by simp [size_madeCells]; omega), List.getElem?_eq_none (by rw [List.toList_toArray, ZGp]; omega)]
theorem ZEd {P : Program} (w : World) {t e : TypeId} {ti : TypeInfo} {zv : Value} {m : Nat} {z : List Value} {parts : Array (Nat × Value)} {cells : Array Value} (ht : P.underlying t = some (.slice e)) (hti : P.info? e = some ti) (hz1 : ti.zero = some zv)
  (hz3 : zv.cells.toList = z) (hzl : z.length = ti.size) (hm : m * ti.size <= 16777216) (hf : Instr.fill (fun j => some (j * ti.size, ti.size)) ((List.replicate m z).flatten).toArray parts.toList = some cells) :
  (Instr.buildSlice t m parts).run P w = .ok (.slice (some ⟨w.heap.size, 0, none⟩) m m) (w.alloc (.cells cells e)) := by
 have hmade := ZOr z m zv.cells hz3
 rw [hzl] at hmade
 have n1 : ¬ (16777216 < m * ti.size) := by omega
 by_cases h0 : m * ti.size = 0
 ·have hA : ((Array.range (m * ti.size)).map (fun x => (#[] : Array Value)[x % (#[] : Array Value).size]!)) = ((List.replicate m z).flatten).toArray := by
   apply Array.ext'
   have : ((List.replicate m z).flatten) = [] := List.eq_nil_of_length_eq_zero (by rw [ZGp, hzl]; exact h0)
   rw [this, h0]; simp [Array.range_zero']
  unfold Instr.buildSlice
  simp only [Sem.run_bind, run_underlying ht, Result.andThen_ok, ZAX hti, h0, if_true, Nat.not_lt_zero, gt_iff_lt, if_false, Sem.run_pure]
  rw [h0] at hA
  simp only [hA, hf]
  simp [newRow]
 ·unfold Instr.buildSlice
  have hmade' : Array.map (fun x => zv.cells[x % zv.cells.size]!) (Array.range (m * ti.size)) = ((List.replicate m z).flatten).toArray := hmade
  simp only [Sem.run_bind, run_underlying ht, Result.andThen_ok, ZAX hti, h0, if_false, n1, gt_iff_lt, Sem.run_pure, ZBm hti hz1, Nat.reducePow, hmade', hf]
  simp [newRow]
section
variable {G : Ctx} {o : Oper} {a : Act} {r : Regs} {h : Heap} {D : Nat -> Prop} {n : Nat} {ρ : Env} {φ : Nat -> List Nat} {w : World} {K : SV -> Heap -> Nat -> Prop}
variable (g : GM G h D ρ φ w) (hr : RM r D ρ a)
include g hr
omit hr in
theorem GM.drops : ∀ (dead : Heap), (∀ p ∈ dead, p.2 = none) -> GM G (dead ++ h) D ρ φ w /\ ∀ k e, hget (dead ++ h) k = some e -> hget h k = some e /\ ∀ p ∈ dead, p.1 ≠ k
 | [], _ => ⟨g, fun k e hk => ⟨hk, fun p hp => (by cases hp)⟩⟩
 | (j, o) :: dead, hd => by
  obtain ⟨h1, h2⟩ := GM.drops dead fun p hp => hd p (List.mem_cons_of_mem _ hp)
  obtain rfl : o = none := hd (j, o) (by simp)
  refine ⟨h1.drop j, fun k e hk => ?_⟩
  have hk : hget ((j, none) :: (dead ++ h)) k = some e := hk
  rw [ZAJ] at hk
  split at hk
  ·cases hk
  ·rename_i hne
   obtain ⟨h3, h4⟩ := h2 k e hk
   refine ⟨h3, fun p hp => ?_⟩
   rcases List.mem_cons.1 hp with rfl | hp
   ·exact hne
   ·exact h4 p hp
structure Elem (ρ : Env) (w : World) (Fc : List Nat) (x : LV) (d : DV) (s : List (Nat × Nat) -> Loc0) : Prop where
 val : x.at ρ = ZCb s [] d
 there : ∀ wd n f, d = .sl wd n f -> (s []).there = true
 nodes : ∀ p, ZDv s d Fc Fc w p
 valid : ZEc s d
omit g hr in
theorem Elem.mono {Fc Fc' : List Nat} {x : LV} {d : DV} {s : List (Nat × Nat) -> Loc0} (hF : ∀ b ∈ Fc, b ∈ Fc') (e : Elem ρ w Fc x d s) : Elem ρ w Fc' x d s :=
 ⟨e.val, e.there, fun p wd n f ht hd => by
  obtain ⟨h1, h2, h3⟩ := e.nodes p wd n f ht hd
  refine ⟨h1, h2, fun i hi => ?_⟩
  obtain ⟨h4, h5, h6⟩ := h3 i hi
  refine ⟨h4, ?_, h6⟩
  cases p <;> exact hF _ h5, e.valid⟩
def ZSl : List (Nat × Nat) -> Loc0 := fun _ => ⟨0, 0, 0, true, none, false⟩
def ZRa (l : Loc) : List (Nat × Nat) -> Loc0
 | [] => ⟨l.blk, l.off, l.cap, l.nil, l.spot, true⟩
 | _ => ⟨0, 0, 0, true, none, false⟩
inductive Elems (ρ : Env) (w : World) (Fc : List Nat) : List LV -> List DV -> List (List (Nat × Nat) -> Loc0) -> Prop
 | nil : Elems ρ w Fc [] [] []
 | cons {x d s xs ds ss} : Elem ρ w Fc x d s -> Elems ρ w Fc xs ds ss -> Elems ρ w Fc (x :: xs) (d :: ds) (s :: ss)
omit g hr in
theorem Elems.mono {Fc Fc' : List Nat} (hF : ∀ b ∈ Fc, b ∈ Fc') {xs ds ss} (e : Elems ρ w Fc xs ds ss) : Elems ρ w Fc' xs ds ss := by
 induction e with
 | nil => exact .nil
 | cons h1 _ ih => exact .cons (h1.mono hF) ih
omit g hr in
theorem Elems.get {Fc : List Nat} {xs ds ss} (e : Elems ρ w Fc xs ds ss) : xs.length = ds.length /\ xs.length = ss.length /\ ∀ (j : Nat) (d : DV) (s : List (Nat × Nat) -> Loc0), ds[j]? = some d -> ss[j]? = some s -> ∃ x, xs[j]? = some x /\ Elem ρ w Fc x d s := by
 induction e with
 | nil => exact ⟨rfl, rfl, fun j d s h => (by simp at h)⟩
 | cons h1 _ ih =>
  refine ⟨by simp [ih.1], by simp [ih.2.1], fun j d s hd hs => ?_⟩
  cases j with
  | zero => simp at hd hs; subst hd hs; exact ⟨_, rfl, h1⟩
  | succ j => simpa using ih.2.2 j d s (by simpa using hd) (by simpa using hs)
omit hr in
theorem ZDp : ∀ (cs : List LV) {K' : List DV -> Heap -> Prop}, ZIp h cs K' -> (∀ x ∈ cs, x.ok ρ D) -> ∃ ds dead ss Fc, K' ds dead /\ Elems ρ w Fc cs ds ss /\ (∀ p ∈ dead, p.2 = none) /\
  ∀ b ∈ Fc, ∃ k e, (k, none) ∈ dead /\ hget h k = some e /\ e.own = true /\ b ∈ φ k
 | [], K', he, _ => ⟨[], [], [], [], he, .nil, fun p hp => (by cases hp), fun b hb => (by cases hb)⟩
 | x :: cs, K', he, hok => by
  have hok' : ∀ x ∈ cs, x.ok ρ D := fun y hy => hok y (List.mem_cons_of_mem _ hy)
  unfold ZIp at he
  split at he
  ·rename_i heq; cases heq
  ·rename_i v xs heq
   cases heq
   obtain ⟨ds, dead, ss, Fc, h1, h2, h3, h4⟩ := ZDp cs he hok'
   exact ⟨_, _, ZSl :: ss, Fc, h1, .cons ⟨rfl, fun _ _ _ e => (by cases e), fun p wd n f ht => (by cases ht), fun p i c hh => (by cases hh)⟩ h2, h3, h4⟩
  ·rename_i k wd len xs heq
   cases heq
   split at he
   ·rename_i wd' m f hk
    split at he
    ·rename_i hwd
     obtain rfl := Nat.eq_of_beq_eq_true hwd
     obtain ⟨hlen, he⟩ := he
     obtain ⟨ds, dead, ss, Fc, h1, h2, h3, h4⟩ := ZDp cs he hok'
     have hko := hok _ (List.mem_cons_self ..)
     have hE : ArAt wd' m f (ρ k) (φ k) w := g.hm.at_ k _ hk
     refine ⟨_, _, ZRa (ρ k) :: ss, φ k ++ Fc, h1, .cons ⟨?_, fun _ _ _ _ => rfl, fun p wd2 n2 f2 ht hd => ?_, fun p i c hh => (by cases hh)⟩ (h2.mono fun b hb => by simp [hb]), fun p hp => ?_, fun b hb => ?_⟩
     ·simp [LV.at, ZCb, ZRa, Loc0.loc, adr]
     ·cases p with
      | cons y p => cases ht
      | nil =>
       simp only [ZAv, DV.sl.injEq] at hd
       obtain ⟨rfl, rfl, rfl⟩ := hd
       rcases hE with ⟨e1, e2, e3⟩ | ⟨e1, e2, e3, e4, e5, ccs, t0, e6, e7, e8⟩
       ·refine ⟨fun _ => by omega, fun hh => ?_, fun i hi => by omega⟩
        have : (ρ k).nil = false := hh
        rw [e1] at this; cases this
       ·refine ⟨fun hh => ?_, fun _ => Nat.le_trans (Nat.le_of_eq hlen) e4, fun i hi => ⟨e1, ?_, fun c hc => ?_⟩⟩
        ·have : (ρ k).nil = true := hh
         rw [e1] at this; cases this
        ·show (ρ k).blk ∈ φ k ++ Fc
         rw [e3]; simp
        ·obtain ⟨k1, k2, k3⟩ := e8 i (by omega)
         have hget : (f i)[c]? = some ((f i).getD c (.bool false)) := by simp [show c < (f i).length by omega]
         refine ⟨?_, k2 _ (List.mem_of_getElem? hget), fun _ _ _ e => (by cases e)⟩
         have := k3 c hc
         rw [hget] at this
         simp only [ZCb, ZRa, World.cell?, adr, Loc0.loc, e6, e2, Nat.zero_add, ite_self, Option.isSome_none, Bool.false_eq_true, if_false, this]
     ·rcases List.mem_cons.1 hp with rfl | hp
      ·rfl
      ·exact h3 p hp
     ·rcases List.mem_append.1 hb with hb | hb
      ·exact ⟨k, _, List.mem_cons_self .., hk, rfl, hb⟩
      ·obtain ⟨k', e, h5, h6⟩ := h4 b hb
       exact ⟨k', e, List.mem_cons_of_mem _ h5, h6⟩
    ·exact he.elim
   ·exact he.elim
  ·rename_i k wd len xs heq
   cases heq
   split at he
   ·rename_i wd' m f hk
    split at he
    ·rename_i hwd
     obtain rfl := Nat.eq_of_beq_eq_true hwd
     obtain ⟨hlen, he⟩ := he
     obtain ⟨ds, dead, ss, Fc, h1, h2, h3, h4⟩ := ZDp cs he hok'
     have hko := hok _ (List.mem_cons_self ..)
     obtain ⟨Fr1, Fc1, hF1, hdis1, har1, hN1, hth1, hV1⟩ := ZFS g hk
     refine ⟨_, _, (ρ k).sub :: ss, φ k ++ Fc, h1, .cons ⟨?_, fun _ _ _ _ => hth1, fun p wd2 n2 f2 ht hd => ?_, hlen ▸ hV1⟩ (h2.mono fun b hb => by simp [hb]), fun p hp => ?_, fun b hb => ?_⟩
     ·simp [LV.at, ZCb]
     ·have key : ∀ n3, (p = [] -> n2 <= n3) -> ZDv (ρ k).sub (.sl wd' m f) Fr1 Fc1 w p -> ZAv (.sl wd' m f) p = .sl wd2 n3 f2 -> (((ρ k).sub p).loc.nil = true -> n2 = 0) /\ (((ρ k).sub p).loc.nil = false -> n2 <= ((ρ k).sub p).loc.cap) /\ ∀ i, i < n2 -> ((ρ k).sub p).loc.nil = false /\ ((ρ k).sub p).blk ∈ (match p with | [] => φ k ++ Fc | _ => φ k ++ Fc) /\ ∀ c, c < wd2 ->
        w.cell? (adr ((ρ k).sub p).loc (i * wd2 + c)) = some (ZCb (ρ k).sub ((i, c) :: p) (f2 i c)) /\ (ZCb (ρ k).sub ((i, c) :: p) (f2 i c)).oneCell' = true /\ ∀ wd2 n2 g2, f2 i c = .sl wd2 n2 g2 -> ((ρ k).sub ((i, c) :: p)).there = true := by
       intro n3 hle hN hd3
       obtain ⟨k1, k2, k3⟩ := hN wd2 n3 f2 ht hd3
       have hle' : n2 <= n3 := by
        cases p with
        | nil => exact hle rfl
        | cons y p =>
         rw [ZBK (by simp)] at hd hd3
         rw [hd] at hd3; cases hd3; exact Nat.le_refl _
       refine ⟨fun hh => (by have := k1 hh; omega), fun hh => Nat.le_trans hle' (k2 hh), fun i hi => ?_⟩
       obtain ⟨k4, k5, k6⟩ := k3 i (by omega)
       refine ⟨k4, ?_, k6⟩
       rw [hF1]
       cases p with
       | nil => simp only at k5 ⊢; simp [k5]
       | cons y p => simp only at k5 ⊢; simp [k5]
      cases p with
      | nil =>
       simp only [ZAv, DV.sl.injEq] at hd
       obtain ⟨rfl, rfl, rfl⟩ := hd
       exact key m (fun _ => Nat.le_of_eq hlen) (hN1 []) rfl
      | cons y p =>
       refine key n2 (fun e => (by cases e)) (hN1 _) ?_
       rw [ZBK (by simp)] at hd ⊢
       exact hd
     ·rcases List.mem_cons.1 hp with rfl | hp
      ·rfl
      ·exact h3 p hp
     ·rcases List.mem_append.1 hb with hb | hb
      ·exact ⟨k, _, List.mem_cons_self .., hk, rfl, hb⟩
      ·obtain ⟨k', e, h5, h6⟩ := h4 b hb
       exact ⟨k', e, List.mem_cons_of_mem _ h5, h6⟩
    ·exact he.elim
   ·exact he.elim
  ·exact he.elim
def subB (l : Loc) (wd m : Nat) (ss : List (List (Nat × Nat) -> Loc0)) : List (Nat × Nat) -> Loc0
 | [] => ⟨l.blk, l.off, l.cap, l.nil, l.spot, true⟩
 | y :: p => if (ZAf (y :: p)).1 < m /\ (ZAf (y :: p)).2 < wd then (match ss[(ZAf (y :: p)).1 * wd + (ZAf (y :: p)).2]? with | some s => s (y :: p).dropLast | none => ⟨0, 0, 0, true, none, false⟩) else ⟨0, 0, 0, true, none, false⟩
omit g hr in
theorem ZGq {l : Loc} {wd m : Nat} {ss : List (List (Nat × Nat) -> Loc0)} {p : List (Nat × Nat)} (h : p ≠ []) : subB l wd m ss p = if (ZAf p).1 < m /\ (ZAf p).2 < wd then (match ss[(ZAf p).1 * wd + (ZAf p).2]? with | some s => s p.dropLast | none => ⟨0, 0, 0, true, none, false⟩) else ⟨0, 0, 0, true, none, false⟩ := by
 cases p with
 | nil => exact absurd rfl h
 | cons y p => rfl
theorem ZRb (hn : ¬ D n) {t e : TypeId} {m : Nat} {parts : Array (Nat × Operand)} {ps : List (Nat × Nat × O)} {z : List Value} {ti : TypeInfo} (ho : o.op = .buildSlice t m parts) (ht : G.P.underlying t = some (.slice e)) (hti : G.P.info? e = some ti) (hz : ZB0 G.P e = some z)
  (hm : m * ti.size <= 16777216) (hzl : z.length = ti.size) (hs0 : ti.size ≠ 0) (hps : cPts (fun j => some (j * ti.size, ti.size)) parts.toList = some ps)
  (he : evI (fun _ _ _ _ _ => False) (fun _ _ _ _ _ _ => False) (fun _ _ _ _ _ => False) (.bsl ti.size m ((List.replicate m z).flatten) ps) r h n K) : Runs G o a h D n ρ w K := by
 obtain ⟨ti', zv, hi', hz1, hz2, hz3⟩ := ZBJ hz
 have : ti' = ti := by rw [hti] at hi'; cases hi'; rfl
 subst this
 simp only [evI] at he
 split at he
 ·rename_i cs hcs
  split at he
  ·rename_i vs hpl hone hlen
   have hlen := Nat.eq_of_beq_eq_true hlen
   obtain ⟨h1, h2, h3⟩ := ZEL g hr _ parts.toList ps _ cs hps hcs (fun x hx => by
    obtain ⟨y, _, rfl⟩ := List.mem_map.1 hx; trivial)
   have hcv : cs.map (LV.at ρ) = vs := ZGG ρ hpl
   have hz0 : (((List.replicate m z).flatten).map LV.v).map (LV.at ρ) = (List.replicate m z).flatten := by simp [Function.comp_def, LV.at]
   rw [hcv, hz0] at h1
   have hrun := ZEd (P := G.P) w (parts := parts.map fun (i, x) => (i, a.eval x)) ht hti hz1 hz3 hzl hm (by simpa using h1)
   have hvl : vs.length = m * ti'.size := by rw [<- hcv]; simpa using hlen
   have hvo : ∀ x ∈ vs, x.oneCell' = true := fun x hx => by
    rw [<- hcv] at hx
    obtain ⟨y, hy, rfl⟩ := List.mem_map.1 hx
    exact ZCt (ρ := ρ) hone y hy
   have hrow : ∀ i, i < m -> (ZHj ti'.size m vs i).length = ti'.size /\ (∀ x ∈ ZHj ti'.size m vs i, x ∈ vs) /\ ∀ j, j < ti'.size -> vs[i * ti'.size + j]? = (ZHj ti'.size m vs i)[j]? := by
    intro i hi
    unfold ZHj
    split
    ·rename_i hm1
     have hi0 : i = 0 := by omega
     subst hi0
     exact ⟨by rw [hvl, Nat.one_mul], fun x hx => hx, fun j hj => by simp⟩
    ·have hle : i * ti'.size + ti'.size <= m * ti'.size := by
      have : (i + 1) * ti'.size <= m * ti'.size := Nat.mul_le_mul_right _ hi
      rw [Nat.add_mul] at this; omega
     exact ⟨by simp; omega, fun x hx => List.mem_of_mem_drop (List.mem_of_mem_take hx), fun j hj => by simp [hj]⟩
   have hmc : m <= maxLen \/ ti'.size = 0 := by
    rcases Nat.eq_zero_or_pos ti'.size with h0 | h0
    ·exact .inr h0
    ·left
     have : m <= m * ti'.size := Nat.le_mul_of_pos_right _ h0
     unfold maxLen; omega
   by_cases hmm : m <= maxLen
   ·refine ZFR g hn (.ar ti'.size m (ZHj ti'.size m vs)) { blk := w.heap.size, off := 0, cap := m, nil := false } (.cells vs.toArray e) (.o (.l (.s n ti'.size 0 m 0))) rfl rfl
     (fun ρ' hρ => .inr ⟨rfl, ⟨rfl, rfl⟩, rfl, Nat.le_refl _, hmm, _, e, ZBg w _, by simpa using hvl, fun i hi => ⟨(hrow i hi).1, fun x hx => hvo x ((hrow i hi).2.1 x hx), fun j hj => ?_⟩⟩)
     (fun ρ' hl => ⟨.inr ⟨Nat.le_refl _, Nat.lt_succ_self _⟩, fun hf => (by rw [hl] at hf; cases hf), fun _ => ⟨by rw [hl]; simp, .inl (dof0 _ _), Nat.le_refl _⟩⟩) he (fun ρ' hl => ?_)
    ·rw [<- (hrow i hi).2.2 j hj]; simp
    ·simp only [execOp, ho, Sem.run_bind, hrun, Result.andThen_ok, Sem.run_pure]
     simp [SV.at, AV.at, LV.at, hl, adr]
   ·exfalso
    rcases hmc with h0 | h0
    ·exact hmm h0
    ·exact hs0 h0
  ·rename_i hnp
   unfold bslX at he
   split at he
   ·rename_i hpl
    split at he
    ·rename_i hone
     split at he
     ·rename_i hlen
      have hlen := Nat.eq_of_beq_eq_true hlen
      obtain ⟨h1, h2, h3⟩ := ZEL g hr _ parts.toList ps _ cs hps hcs (fun x hx => by
       obtain ⟨y, _, rfl⟩ := List.mem_map.1 hx; trivial)
      have hz0 : (((List.replicate m z).flatten).map LV.v).map (LV.at ρ) = (List.replicate m z).flatten := by simp [Function.comp_def, LV.at]
      rw [hz0] at h1
      have hrun := ZEd (P := G.P) w (parts := parts.map fun (i, x) => (i, a.eval x)) ht hti hz1 hz3 hzl hm (by simpa using h1)
      have hmm : m <= maxLen := by
       have : m <= m * ti'.size := Nat.le_mul_of_pos_right _ (Nat.pos_of_ne_zero hs0)
       unfold maxLen; omega
      obtain ⟨ds, dead, ss, Fc, hK, hel, hdead, hFc⟩ := ZDp g cs he h2
      obtain ⟨hl1, hl2, hget⟩ := hel.get
      obtain ⟨gd, hold⟩ := GM.drops g dead hdead
      let l0 : Loc := { blk := w.heap.size, off := 0, cap := m, nil := false }
      let L : Loc := { blk := w.heap.size, off := 0, cap := m, nil := false, sub := subB l0 ti'.size m ss }
      let ρ' : Env := fun k => if k = n then L else ρ k
      have hρ : ∀ k, D k -> ρ' k = ρ k := fun k hk => by
       have : k ≠ n := fun e => hn (e ▸ hk)
       simp [ρ', this]
      have hρn : ρ' n = L := by simp [ρ']
      let w' := w.alloc (.cells (cs.map (LV.at ρ)).toArray e)
      have hcold : ∀ b, b < w.heap.size -> w'.heap[b]? = w.heap[b]? := fun b hb => ZDC w _ b hb
      have hfcb : ∀ b ∈ Fc, b < w.heap.size := fun b hb => by
       obtain ⟨k, e', _, h5, _, h6⟩ := hFc b hb
       exact g.hm.sz k e' h5 b h6
      have hcl : cs.length = m * ti'.size := by simpa using hlen
      have hidx : ∀ i c, i < m -> c < ti'.size -> i * ti'.size + c < m * ti'.size := fun i c hi hc => by
       have : (i + 1) * ti'.size <= m * ti'.size := Nat.mul_le_mul_right _ hi
       rw [Nat.add_mul] at this; omega
      have hat : ∀ i c, i < m -> c < ti'.size -> ∃ x d s, cs[i * ti'.size + c]? = some x /\ ds[i * ti'.size + c]? = some d /\ ss[i * ti'.size + c]? = some s /\ Elem ρ w Fc x d s := fun i c hi hc => by
       have := hidx i c hi hc
       obtain ⟨x, hx, hE⟩ := hget (i * ti'.size + c) ds[i * ti'.size + c] ss[i * ti'.size + c] (List.getElem?_eq_getElem (by omega)) (List.getElem?_eq_getElem (by omega))
       exact ⟨x, _, _, hx, List.getElem?_eq_getElem (by omega), List.getElem?_eq_getElem (by omega), hE⟩
      have hrow : ∀ i c, i < m -> c < ti'.size -> some (ZCb L.sub [(i, c)] (ZEZ ti'.size ds i c)) = (cs[i * ti'.size + c]?).map (LV.at ρ) := fun i c hi hc => by
       obtain ⟨x, d, s, q1, q2, q3, q4⟩ := hat i c hi hc
       rw [q1, Option.map_some, q4.val]
       simp only [ZEZ, ZAc, q2]
       cases d with
       | v y => rfl
       | sl a b f => simp [ZCb, L, subB, ZAf, q3, hi, hc]
      have har : ArAt ti'.size m (ZBA L.sub ti'.size (ZEZ ti'.size ds)) (L.sub []).loc [w.heap.size] w' := by
       refine .inr ⟨rfl, ⟨rfl, rfl⟩, rfl, Nat.le_refl _, hmm, _, e, ZBg w _, by simp; exact hcl, fun i hi => ⟨by simp [ZBA], fun x hx => ?_, fun j hj => ?_⟩⟩
       ·simp only [ZBA, List.mem_map, List.mem_range] at hx
        obtain ⟨c, hc, rfl⟩ := hx
        have := hrow i c hi hc
        obtain ⟨x, d, s, q1, q2, q3, q4⟩ := hat i c hi hc
        rw [q1, Option.map_some] at this
        rw [Option.some.inj this]
        exact ZCt hone x (List.mem_of_getElem? q1)
       ·rw [show (ZBA L.sub ti'.size (ZEZ ti'.size ds) i)[j]? = some (ZCb L.sub [(i, j)] (ZEZ ti'.size ds i j)) by simp [ZBA, hj], hrow i j hi hj]
        simp
      have hdp : DpAt true (.sl ti'.size m (ZEZ ti'.size ds)) L ([w.heap.size] ++ Fc) w' := by
       refine ⟨rfl, _, _, _, [w.heap.size], Fc, rfl, rfl, fun _ => ⟨fun b hb hc => ?_, har⟩, ZHm _ rfl har (fun i hi c hc wd2 n2 f2 hd => ?_) fun p hp hth => ?_, ?_⟩
       ·simp at hb; have := hfcb b hc; omega
       ·obtain ⟨x, d, s, q1, q2, q3, q4⟩ := hat i c hi hc
        simp only [ZEZ, ZAc, q2] at hd
        show (subB l0 ti'.size m ss [(i, c)]).there = true
        simp only [subB, ZAf, List.getLastD_cons, List.getLastD_nil, q3, hi, hc, and_self, if_true]
        simp only [List.dropLast_singleton]
        exact q4.there _ _ _ hd
       ·have hth' : (subB l0 ti'.size m ss p).there = true := hth
        rw [ZGq hp] at hth'
        split at hth'
        rotate_left
        ·cases hth'
        rename_i hbd
        cases hs : ss[(ZAf p).1 * ti'.size + (ZAf p).2]? with
        | none => rw [hs] at hth'; cases hth'
        | some s =>
         have hlt := (List.getElem?_eq_some_iff.1 hs).1
         have hd : ds[(ZAf p).1 * ti'.size + (ZAf p).2]? = some ds[(ZAf p).1 * ti'.size + (ZAf p).2] := List.getElem?_eq_getElem (by omega)
         obtain ⟨x, hx, q4⟩ := hget _ _ s hd hs
         refine ⟨s, _, Fc, Fc, p.dropLast, (q4.nodes _).mono (fun _ b hb => hcold b (hfcb b hb)) (fun b hb => hcold b (hfcb b hb)), ?_, ?_, fun y => ?_, fun b hb => ?_⟩
         ·rw [ZBK hp]
          simp only [ZEZ, ZAc, hd]
         ·show subB l0 ti'.size m ss p = _
          rw [ZGq hp, if_pos hbd, hs]
         ·show subB l0 ti'.size m ss (y :: p) = _
          rw [ZGq (by simp), ZCj hp, if_pos hbd, hs, ZCM hp]
         ·cases hq : p.dropLast <;> rw [hq] at hb <;> exact hb
       ·intro p i c hth
        have hth' : (subB l0 ti'.size m ss ((i, c) :: p)).there = true := hth
        rw [ZGq (by simp)] at hth'
        split at hth'
        rotate_left
        ·cases hth'
        rename_i hbd
        by_cases hp : p = []
        ·subst hp
         exact ⟨rfl, ti'.size, m, _, rfl, hbd⟩
        ·rw [ZCj hp] at hbd
         rw [ZCj hp, ZCM hp] at hth'
         cases hs : ss[(ZAf p).1 * ti'.size + (ZAf p).2]? with
         | none => rw [hs] at hth'; cases hth'
         | some s =>
          rw [hs] at hth'
          have hlt := (List.getElem?_eq_some_iff.1 hs).1
          have hd : ds[(ZAf p).1 * ti'.size + (ZAf p).2]? = some ds[(ZAf p).1 * ti'.size + (ZAf p).2] := List.getElem?_eq_getElem (by omega)
          obtain ⟨x, hx, q4⟩ := hget _ _ s hd hs
          obtain ⟨k1, wd', n', f', k2, k3⟩ := q4.valid _ i c hth'
          refine ⟨?_, wd', n', f', ?_, k3⟩
          ·show (subB l0 ti'.size m ss p).there = true
           rw [ZGq hp, if_pos hbd, hs]; exact k1
          ·rw [ZBK hp]
           simp only [ZEZ, ZAc, hd]
           exact k2
      refine ⟨.o (.l (.fs n [] ti'.size 0 m 0)), _, n + 1, ρ', fun k => if k = n then [w.heap.size] ++ Fc else φ k, w', hK, Nat.le_succ _, Nat.le_refl _, hρ, ?_,
       ⟨⟨.inr ⟨Nat.le_refl _, Nat.lt_succ_self _⟩, by rw [hρn]; rfl⟩, fun hf' => (by rw [hρn] at hf'; cases hf'), fun hf' => ⟨by rw [hρn]; show 0 + m <= m; omega, .inl (dof0 _ _), Nat.le_refl _⟩⟩, .inl ?_⟩
      ·refine gd.put n (.dp true _) ([w.heap.size] ++ Fc) hρ (fun k hk => .inl hk) (.inr ⟨Nat.le_refl _, Nat.lt_succ_self _⟩) (fun k e' hk hne b hb' => hcold b (gd.hm.sz k e' hk b hb')) (by rw [hρn]; exact hdp) (fun b hb' => ?_)
        (fun k e' hk hne b hb' hb'' => ?_) (fun _ b hb' => ?_) (g.frm.alloc _) (by simp [w'])
       ·rcases List.mem_append.1 hb' with hb' | hb'
        ·simp at hb'; simp [w', hb']
        ·have := hfcb b hb'; simp [w']; omega
       ·rcases List.mem_append.1 hb'' with hb'' | hb''
        ·simp at hb''
         have := gd.hm.sz k e' hk b hb'
         omega
        ·obtain ⟨k2, e2, h5, h6, h7, h8⟩ := hFc b hb''
         obtain ⟨h9, h10⟩ := hold k e' hk
         exact g.hm.dj k2 k e2 e' h6 h9 (h10 _ h5) h7 b h8 hb'
       ·rcases List.mem_append.1 hb' with hb' | hb'
        ·simp at hb'; subst hb'; exact .inr g.frm.size
        ·obtain ⟨k2, e2, h5, h6, h7, h8⟩ := hFc b hb'
         exact g.ow k2 e2 h6 h7 b h8
      ·simp only [execOp, ho, Sem.run_bind, hrun, Result.andThen_ok, Sem.run_pure]
       simp [SV.at, AV.at, LV.at, hρn, L, subB, l0, Loc0.loc, adr, w']
     ·exact he.elim
    ·exact he.elim
   ·exact he.elim
 ·exact he.elim
omit g hr in
theorem ZHn {P : Program} {T : TypeId} {d : TypeDesc} {c : EqK} {u v : LV} {b : Bool} {dp : Nat} (hd : P.underlying T = some d) (hc : (d = .bool /\ c = .b) \/ ∃ k, d = .int k /\ c = .k k) (hb : eqLV c u v = some b) :
  (Op.equalIn (dp + 1) T (u.at ρ) (v.at ρ)).run P w = .ok b w := by
 rcases hc with ⟨rfl, rfl⟩ | ⟨k, rfl, rfl⟩
 ·unfold eqLV at hb
  split at hb
  all_goals first | (cases hb; done) | skip
  all_goals first | contradiction | skip
  simp only [Option.some.injEq] at hb
  subst hb
  simp [Op.equalIn, run_underlying hd, LV.at]
 ·unfold eqLV at hb
  split at hb
  all_goals first | (cases hb; done) | skip
  all_goals first | contradiction | skip
  split at hb
  ·rename_i e1
   split at hb
   ·rename_i e2
    simp only [Option.some.injEq] at hb
    subst hb e1 e2
    simp [Op.equalIn, run_underlying hd, LV.at]
    rfl
   ·cases hb
  ·cases hb
omit g hr in
theorem ZJ8 {P : Program} {dp : Nat} {XS YS : Array Value} : ∀ (fs : List Field) (m : Nat) (cs : List EqK) (us vs : List LV) (b : Bool), eqFields P m fs = some cs -> ZC4 cs us vs = some b ->
  XS.toList.drop m = us.map (LV.at ρ) -> YS.toList.drop m = vs.map (LV.at ρ) -> (Op.eqFields (dp + 1) XS YS fs).run P w = .ok b w
 | [], m, cs, us, vs, b, hc, he, hX, hY => by
  simp [eqFields] at hc; subst hc
  cases us <;> cases vs <;> simp [ZC4] at he
  subst he
  simp [Op.eqFields]
 | f :: fs, m, cs, us, vs, b, hc, he, hX, hY => by
  simp only [eqFields] at hc
  split at hc
  ·rename_i hoff
   obtain ⟨hoff, hname⟩ := hoff
   have fin : ∀ (c : EqK) (cs' : List EqK) (d : TypeDesc), P.underlying f.type = some d -> ((d = .bool /\ c = .b) \/ ∃ k, d = .int k /\ c = .k k) -> eqFields P (m + 1) fs = some cs' -> cs = c :: cs' -> (Op.eqFields (dp + 1) XS YS (f :: fs)).run P w = .ok b w := by
    intro c cs' d hd hcd hcs' hcs
    subst hcs
    have hag : ZEa d = false := by rcases hcd with ⟨rfl, _⟩ | ⟨k, rfl, _⟩ <;> rfl
    have step : ∀ (u v : LV) (us' vs' : List LV) (b1 b2 : Bool), us = u :: us' -> vs = v :: vs' -> eqLV c u v = some b1 -> ZC4 cs' us' vs' = some b2 -> (Op.eqFields (dp + 1) XS YS (f :: fs)).run P w = .ok (b1 && b2) w := by
     intro u v us' vs' b1 b2 hu hv h1 h2
     subst hu hv
     have hx0 : XS[m]? = some (u.at ρ) := by
      have := congrArg (fun l => l[0]?) hX
      simpa using this
     have hy0 : YS[m]? = some (v.at ρ) := by
      have := congrArg (fun l => l[0]?) hY
      simpa using this
     have hX' : XS.toList.drop (m + 1) = us'.map (LV.at ρ) := by
      have := congrArg (fun l => l.drop 1) hX
      simpa using this
     have hY' : YS.toList.drop (m + 1) = vs'.map (LV.at ρ) := by
      have := congrArg (fun l => l.drop 1) hY
      simpa using this
     have ih := ZJ8 (dp := dp) fs (m + 1) cs' us' vs' b2 hcs' h2 hX' hY'
     have hp1 : (part f.type XS f.offset).run P w = .ok (u.at ρ) w := by simp [part, ZA4 hd, hag, hoff, hx0]
     have hp2 : (part f.type YS f.offset).run P w = .ok (v.at ρ) w := by simp [part, ZA4 hd, hag, hoff, hy0]
     have hq := ZHn (ρ := ρ) (w := w) (dp := dp) hd hcd h1
     rw [Op.eqFields]
     simp only [if_pos hname, Sem.run_bind, hp1, hp2, hq, Result.andThen_ok]
     cases b1
     ·simp
     ·simpa using ih
    cases us with
    | nil => cases cs' <;> simp [ZC4] at he
    | cons u us' =>
     cases vs with
     | nil => cases cs' <;> simp [ZC4] at he
     | cons v vs' =>
      by_cases hlast : cs' = [] /\ us' = [] /\ vs' = []
      ·obtain ⟨rfl, rfl, rfl⟩ := hlast
       simp only [ZC4] at he
       have := step u v [] [] b true rfl rfl he (by simp [ZC4])
       simpa using this
      ·have he' : ∃ b1 b2, eqLV c u v = some b1 /\ ZC4 cs' us' vs' = some b2 /\ b = (b1 && b2) := by
        cases cs' with
        | nil => cases us' <;> cases vs' <;> simp_all [ZC4]
        | cons c' cs'' =>
         simp only [ZC4] at he
         split at he
         ·rename_i b1 b2 h1 h2
          simp only [Option.some.injEq] at he
          exact ⟨b1, b2, h1, h2, he.symm⟩
         ·cases he
       obtain ⟨b1, b2, h1, h2, rfl⟩ := he'
       exact step u v us' vs' b1 b2 rfl rfl h1 h2
   split at hc
   ·rename_i cs' hd hcs'
    simp only [Option.some.injEq] at hc
    exact fin .b cs' .bool hd (.inl ⟨rfl, rfl⟩) hcs' hc.symm
   ·rename_i k cs' hd hcs'
    simp only [Option.some.injEq] at hc
    exact fin (.k k) cs' (.int k) hd (.inr ⟨k, rfl, rfl⟩) hcs' hc.symm
   ·cases hc
  ·cases hc
theorem ZOs {t t' : TypeId} {op : BinOp} {neg : Bool} {cs : List EqK} {X Y : Operand} {x y : O} {fs : Array Field} (ho : o.op = .binOp op t X Y t') (hop : (neg = false /\ op = .eql) \/ (neg = true /\ op = .neq)) (hx : cO X = some x) (hy : cO Y = some y)
  (hd : G.P.underlying t = some (.struct fs)) (hcs : eqFields G.P 0 fs.toList = some cs) (hst : G.P.stoodInHeld t = false) (hgd : G.P.eqGuardType G.P.depth t = false)
  (he : evI (fun _ _ _ _ _ => False) (fun _ _ _ _ _ _ => False) (fun _ _ _ _ _ => False) (.eqa cs neg x y) r h n K) : Runs G o a h D n ρ w K := by
 simp only [evI] at he
 split at he
 ·rename_i us vs hv1 hv2
  have h1 := (ZAF hr hx hv1).1
  have h2 := (ZAF hr hy hv2).1
  simp only [AV.at] at h1 h2
  split at he
  ·rename_i b hb
   refine ZAL g (x := ZAR _) trivial he ?_
   have hq : ∀ dp, (Op.equalIn (dp + 2) t (.agg (us.map (LV.at ρ)).toArray) (.agg (vs.map (LV.at ρ)).toArray)).run G.P w = .ok b w := by
    intro dp
    have hf : G.P.fieldsOf t = fs := by simp [Program.fieldsOf, hd]
    rw [run_equalIn_struct (P := G.P) w (dp + 1) t _ _ (by rw [hf]; exact hd) hst, hf]
    exact ZJ8 (ρ := ρ) (dp := dp) fs.toList 0 cs us vs b hcs hb (by simp) (by simp)
   have hq' : (Op.equal t (.agg (us.map (LV.at ρ)).toArray) (.agg (vs.map (LV.at ρ)).toArray)).run G.P w = .ok b w := hq 9998
   have hgd' : ∀ op, (eqGuard op t X Y (.agg (us.map (LV.at ρ)).toArray) (.agg (vs.map (LV.at ρ)).toArray)).run G.P w = .ok () w := fun op => run_eqGuard_agg w op t X Y _ _ hgd
   rcases hop with ⟨rfl, rfl⟩ | ⟨rfl, rfl⟩
   ·have hb2 : binOp .eql t (.agg (us.map (LV.at ρ)).toArray) (.agg (vs.map (LV.at ρ)).toArray) = (do pure (Value.bool (<- Op.equal t (.agg (us.map (LV.at ρ)).toArray) (.agg (vs.map (LV.at ρ)).toArray)))) := rfl
    simp only [execOp, ho, h1, h2, Sem.run_bind, hgd', Result.andThen_ok, hb2, hq', Sem.run_pure]
    rfl
   ·have hb2 : binOp .neq t (.agg (us.map (LV.at ρ)).toArray) (.agg (vs.map (LV.at ρ)).toArray) = (do pure (Value.bool (!(<- Op.equal t (.agg (us.map (LV.at ρ)).toArray) (.agg (vs.map (LV.at ρ)).toArray))))) := rfl
    simp only [execOp, ho, h1, h2, Sem.run_bind, hgd', Result.andThen_ok, hb2, hq', Sem.run_pure]
    rfl
  ·exact he.elim
 ·exact he.elim
omit g hr in
theorem ZJ9 {P : Program} {dp : Nat} {XS YS : Array Value} {e : TypeId} {k : IntKind} (hd : P.underlying e = some (.int k)) : ∀ (n m : Nat) (us vs : List LV) (b : Bool), ZC4 (List.replicate n (.k k)) us vs = some b ->
  XS.toList.drop m = us.map (LV.at ρ) -> YS.toList.drop m = vs.map (LV.at ρ) -> (Op.eqItems (dp + 1) e 1 XS YS (List.range' m n)).run P w = .ok b w
 | 0, m, us, vs, b, he, hX, hY => by
  cases us <;> cases vs <;> simp [ZC4] at he
  subst he
  simp [Op.eqItems]
 | n + 1, m, us, vs, b, he, hX, hY => by
  have step : ∀ (u v : LV) (us' vs' : List LV) (b1 b2 : Bool), us = u :: us' -> vs = v :: vs' -> eqLV (.k k) u v = some b1 -> ZC4 (List.replicate n (.k k)) us' vs' = some b2 -> (Op.eqItems (dp + 1) e 1 XS YS (List.range' m (n + 1))).run P w = .ok (b1 && b2) w := by
   intro u v us' vs' b1 b2 hu hv h1 h2
   subst hu hv
   have hx0 : XS[m]? = some (u.at ρ) := by
    have := congrArg (fun l => l[0]?) hX
    simpa using this
   have hy0 : YS[m]? = some (v.at ρ) := by
    have := congrArg (fun l => l[0]?) hY
    simpa using this
   have hX' : XS.toList.drop (m + 1) = us'.map (LV.at ρ) := by
    have := congrArg (fun l => l.drop 1) hX
    simpa using this
   have hY' : YS.toList.drop (m + 1) = vs'.map (LV.at ρ) := by
    have := congrArg (fun l => l.drop 1) hY
    simpa using this
   have ih := ZJ9 (dp := dp) hd n (m + 1) us' vs' b2 h2 hX' hY'
   have hag : ZEa (.int k) = false := rfl
   have hp1 : (part e XS (m * 1)).run P w = .ok (u.at ρ) w := by simp [part, ZA4 hd, hag, hx0]
   have hp2 : (part e YS (m * 1)).run P w = .ok (v.at ρ) w := by simp [part, ZA4 hd, hag, hy0]
   have hq := ZHn (ρ := ρ) (w := w) (dp := dp) hd (.inr ⟨k, rfl, rfl⟩) h1
   rw [List.range'_succ, Op.eqItems]
   simp only [Sem.run_bind, hp1, hp2, hq, Result.andThen_ok]
   cases b1
   ·simp
   ·simpa using ih
  cases us with
  | nil => cases n <;> simp [ZC4, List.replicate] at he
  | cons u us' =>
   cases vs with
   | nil => cases n <;> simp [ZC4, List.replicate] at he
   | cons v vs' =>
    by_cases hlast : n = 0 /\ us' = [] /\ vs' = []
    ·obtain ⟨rfl, rfl, rfl⟩ := hlast
     simp only [List.replicate, ZC4] at he
     have := step u v [] [] b true rfl rfl he (by simp [ZC4])
     simpa using this
    ·have he' : ∃ b1 b2, eqLV (.k k) u v = some b1 /\ ZC4 (List.replicate n (.k k)) us' vs' = some b2 /\ b = (b1 && b2) := by
      cases n with
      | zero => cases us' <;> cases vs' <;> simp_all [ZC4, List.replicate]
      | succ n' =>
       simp only [List.replicate, ZC4] at he
       split at he
       ·rename_i b1 b2 h1 h2
        simp only [Option.some.injEq] at he
        exact ⟨b1, b2, h1, h2, he.symm⟩
       ·cases he
     obtain ⟨b1, b2, h1, h2, rfl⟩ := he'
     exact step u v us' vs' b1 b2 rfl rfl h1 h2
theorem ZMA {t t' e : TypeId} {m : Nat} {op : BinOp} {neg : Bool} {cs : List EqK} {X Y : Operand} {x y : O} (ho : o.op = .binOp op t X Y t') (hop : (neg = false /\ op = .eql) \/ (neg = true /\ op = .neq)) (hx : cO X = some x) (hy : cO Y = some y)
  (hd : G.P.underlying t = some (.array m e)) (hcs : ZP2 G.P m e = some cs) (hgd : G.P.eqGuardType G.P.depth t = false)
  (he : evI (fun _ _ _ _ _ => False) (fun _ _ _ _ _ _ => False) (fun _ _ _ _ _ => False) (.eqa cs neg x y) r h n K) : Runs G o a h D n ρ w K := by
 simp only [evI] at he
 split at he
 ·rename_i us vs hv1 hv2
  have h1 := (ZAF hr hx hv1).1
  have h2 := (ZAF hr hy hv2).1
  simp only [AV.at] at h1 h2
  split at he
  ·rename_i b hb
   refine ZAL g (x := ZAR _) trivial he ?_
   obtain ⟨k, i, hk, hc, hi, rfl⟩ : ∃ k i, G.P.underlying e = some (.int k) /\ G.P.cellsOf e = 1 /\ G.P.info? e = some i /\ cs = List.replicate m (.k k) := by
    unfold ZP2 at hcs
    split at hcs
    ·rename_i k hk
     split at hcs
     ·rename_i hc
      split at hcs
      ·rename_i i hi
       simp only [Option.some.injEq] at hcs
       exact ⟨k, i, hk, hc, hi, hcs.symm⟩
      ·cases hcs
     ·cases hcs
    ·cases hcs
   have hq : ∀ dp, (Op.equalIn (dp + 2) t (.agg (us.map (LV.at ρ)).toArray) (.agg (vs.map (LV.at ρ)).toArray)).run G.P w = .ok b w := by
    intro dp
    rw [run_equalIn_array (P := G.P) w (dp + 1) _ _ hd hi, hc, List.range_eq_range']
    exact ZJ9 (ρ := ρ) (dp := dp) hk m 0 us vs b hb (by simp) (by simp)
   have hq' : (Op.equal t (.agg (us.map (LV.at ρ)).toArray) (.agg (vs.map (LV.at ρ)).toArray)).run G.P w = .ok b w := hq 9998
   have hgd' : ∀ op, (eqGuard op t X Y (.agg (us.map (LV.at ρ)).toArray) (.agg (vs.map (LV.at ρ)).toArray)).run G.P w = .ok () w := fun op => run_eqGuard_agg w op t X Y _ _ hgd
   rcases hop with ⟨rfl, rfl⟩ | ⟨rfl, rfl⟩
   ·have hb2 : binOp .eql t (.agg (us.map (LV.at ρ)).toArray) (.agg (vs.map (LV.at ρ)).toArray) = (do pure (Value.bool (<- Op.equal t (.agg (us.map (LV.at ρ)).toArray) (.agg (vs.map (LV.at ρ)).toArray)))) := rfl
    simp only [execOp, ho, h1, h2, Sem.run_bind, hgd', Result.andThen_ok, hb2, hq', Sem.run_pure]
    rfl
   ·have hb2 : binOp .neq t (.agg (us.map (LV.at ρ)).toArray) (.agg (vs.map (LV.at ρ)).toArray) = (do pure (Value.bool (!(<- Op.equal t (.agg (us.map (LV.at ρ)).toArray) (.agg (vs.map (LV.at ρ)).toArray))))) := rfl
    simp only [execOp, ho, h1, h2, Sem.run_bind, hgd', Result.andThen_ok, hb2, hq', Sem.run_pure]
    rfl
  ·exact he.elim
 ·exact he.elim
end
end Go.Sx
