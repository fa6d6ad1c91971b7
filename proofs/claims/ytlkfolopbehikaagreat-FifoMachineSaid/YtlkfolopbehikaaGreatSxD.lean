/- part -/
import Derived.Test.YtlkfolopbehikaaGreatSxB
import Derived.Laws.AppendOwn
import Derived.Laws.CopyRow
import Derived.Laws.Cells
import Derived.Tactics
import Derived.WideLaws
import Derived.Maps.Keyed
import Derived.Maps.Own
set_option linter.unusedSimpArgs false
set_option linter.unusedVariables false
namespace Go.Sx
open Go
theorem ZAc {α : Type} : ∀ (l : List α) (n : Nat), nth l n = l[n]?
 | [], _ => by simp [nth]
 | x :: l, 0 => by simp [nth]
 | x :: l, n + 1 => by simp [nth, ZAc l n]
theorem ZCr {α : Type} : ∀ (l : List α) (n : Nat) (y : α), setL l n y = l.set n y
 | [], _, _ => by simp [setL]
 | x :: l, 0, y => by simp [setL]
 | x :: l, n + 1, y => by simp [setL, ZCr l n y]
theorem ZJ3 {α : Type} {l r : List α} {n m : Nat} (h : cut l n m = some r) : r = (l.drop n).take m /\ r.length = m := by
 unfold cut at h
 cases hb : Nat.beq ((l.drop n).take m).length m with
 | true =>
  simp only [hb, cond_true, Option.some.injEq] at h
  subst h
  exact ⟨rfl, Nat.eq_of_beq_eq_true hb⟩
 | false => simp only [hb, cond_false] at h; cases h
theorem ZLM {α : Type} {l r : List α} {n m : Nat} (h : cut l n m = some r) (j : Nat) (hj : j < m) : l[n + j]? = r[j]? := by
 obtain ⟨rfl, _⟩ := ZJ3 h
 simp [hj]
theorem ZAi {α : Type} : ∀ (ys : List α) (l : List α) (n : Nat), (ZAI l n ys).length = l.length
 | [], _, _ => rfl
 | y :: ys, l, n => by simp [ZAI, ZAi ys, ZCr]
theorem ZCs {α : Type} : ∀ (ys : List α) (l : List α) (n : Nat), n + ys.length <= l.length -> ∀ j, (ZAI l n ys)[j]? = if n <= j /\ j < n + ys.length then ys[j - n]? else l[j]?
 | [], l, n, _, j => by simp [ZAI]; intro h1 h2; omega
 | y :: ys, l, n, h, j => by
  simp only [List.length_cons] at h
  rw [ZAI, ZCs ys _ _ (by simp [ZCr]; omega), ZCr]
  by_cases h1 : j = n
  ·subst h1
   have : ¬ (j + 1 <= j /\ j < j + 1 + ys.length) := by omega
   simp [this, List.getElem?_set]
   omega
  ·by_cases h2 : n + 1 <= j /\ j < n + 1 + ys.length
   ·have h3 : n <= j /\ j < n + (ys.length + 1) := by omega
    have e : j - n = (j - (n + 1)) + 1 := by omega
    simp [h2, h3, e]
   ·have h3 : ¬ (n <= j /\ j < n + (ys.length + 1)) := by omega
    simp only [h2, if_false, List.length_cons, h3]
    simp [List.getElem?_set, Ne.symm h1]
theorem ZEr {α β : Type} (f : α -> β) : ∀ (ys : List α) (l : List α) (n : Nat), (ZAI l n ys).map f = ZAI (l.map f) n (ys.map f)
 | [], _, _ => rfl
 | y :: ys, l, n => by simp [ZAI, ZEr f ys, ZCr]
theorem ZDn {α : Type} (l ys : List α) (n : Nat) (h : n + ys.length <= l.length) : ZAI l n ys = l.take n ++ ys ++ l.drop (n + ys.length) := by
 apply List.ext_getElem?
 intro j
 rw [ZCs ys l n h]
 simp only [List.append_assoc, List.getElem?_append, List.length_take, List.getElem?_drop]
 have e : min n l.length = n := by omega
 rw [e]
 by_cases h1 : j < n
 ·have : ¬ (n <= j /\ j < n + ys.length) := by omega
  simp [this, h1]
 ·by_cases h2 : j < n + ys.length
  ·have h3 : n <= j /\ j < n + ys.length := by omega
   have h4 : j - n < ys.length := by omega
   simp [h3, h1, h4]
  ·have h3 : ¬ (n <= j /\ j < n + ys.length) := by omega
   have h4 : ¬ j - n < ys.length := by omega
   have h5 : n + ys.length + (j - n - ys.length) = j := by omega
   simp [h3, h1, h4, h5]
theorem ZDo {α : Type} : ∀ (ys l : List α) (n : Nat) (x : α), x ∈ ZAI l n ys -> x ∈ l \/ x ∈ ys
 | [], _, _, _, h => .inl h
 | y :: ys, l, n, x, h => by
  rcases ZDo ys _ _ x h with h | h
  ·rw [ZCr] at h
   rcases List.mem_or_eq_of_mem_set h with h | h
   ·exact .inl h
   ·exact .inr (by simp [h])
  ·exact .inr (by simp [h])
def dof (cap row d : Nat) : Nat := if row < cap then 0 else d
theorem dof0 (cap row : Nat) : dof cap row 0 = 0 := by unfold dof; split <;> rfl
theorem ZAO (r x : Nat) : nadd r x = x + r := by cases r <;> rfl
def adr (l : Loc) (o : Nat) : Addr := ⟨l.blk, l.off + o, if o = 0 then l.spot else none⟩
def LV.at (ρ : Env) : LV -> Value
 | .v x => x
 | .p k wd row col => .pointer (some (adr (ρ k) (row * wd + col)))
 | .s k wd row len d => if (ρ k).nil then .slice none 0 0 else .slice (some (adr (ρ k) ((row - dof (ρ k).cap row d) * wd))) len ((ρ k).cap - row)
 | .i t k => .iface t (.pointer (some (adr (ρ k) 0)))
 | .io b t k => if b then .iface t (.pointer (some (adr (ρ k) 0))) else .nilIface
 | .c f ks => .func (.func f) #[] (ks.map fun k => Value.pointer (some (adr (ρ k) 0))).toArray
 | .fp k q wd row col => .pointer (some (adr ((ρ k).sub q).loc (row * wd + col)))
 | .mref k => .map (some (ρ k).blk)
 | .stmp k => .int .i64 ((ρ k).off : Int)
 | .fs k q wd row len d => if ((ρ k).sub q).loc.nil then .slice none 0 0 else .slice (some (adr ((ρ k).sub q).loc ((row - dof ((ρ k).sub q).loc.cap row d) * wd))) len (((ρ k).sub q).loc.cap - row)
def LV.ok (ρ : Env) (D : Nat -> Prop) : LV -> Prop
 | .v _ => True
 | .p k _ _ _ => D k
 | .s k _ row len d => D k /\ ((ρ k).nil = true -> len = 0) /\ ((ρ k).nil = false -> row + len <= (ρ k).cap /\ (dof (ρ k).cap row d = 0 \/ len = 0) /\ d <= row)
 | .i _ k => D k
 | .io _ _ k => D k
 | .c _ ks => ∀ k ∈ ks, D k
 | .fp k q _ _ _ => D k /\ ((ρ k).sub q).there = true
 | .mref k => D k
 | .stmp k => D k
 | .fs k q _ row len d => (D k /\ ((ρ k).sub q).there = true) /\ (((ρ k).sub q).loc.nil = true -> len = 0) /\ (((ρ k).sub q).loc.nil = false -> row + len <= ((ρ k).sub q).loc.cap /\ (dof ((ρ k).sub q).loc.cap row d = 0 \/ len = 0) /\ d <= row)
def AV.at (ρ : Env) : AV -> Value
 | .l x => x.at ρ
 | .a xs => .agg (xs.map (LV.at ρ)).toArray
def AV.ok (ρ : Env) (D : Nat -> Prop) : AV -> Prop
 | .l x => x.ok ρ D
 | .a xs => ∀ x ∈ xs, x.ok ρ D
def SV.at (ρ : Env) : SV -> Value
 | .o x => x.at ρ
 | .t xs => .tuple (xs.map (AV.at ρ)).toArray
def SV.ok (ρ : Env) (D : Nat -> Prop) : SV -> Prop
 | .o x => x.ok ρ D
 | .t xs => ∀ x ∈ xs, x.ok ρ D
theorem LV.ok_mono {ρ ρ' : Env} {D D' : Nat -> Prop} (hρ : ∀ k, D k -> ρ' k = ρ k) (hD : ∀ k, D k -> D' k) {x : LV} (h : x.ok ρ D) : x.ok ρ' D' := by
 cases x with
 | v x => trivial
 | p k _ _ _ => exact hD _ h
 | s k wd row len d => obtain ⟨h1, h2⟩ := h; refine ⟨hD _ h1, ?_⟩; rw [hρ k h1]; exact h2
 | i t k => exact hD _ h
 | io b t k => exact hD _ h
 | mref k => exact hD _ h
 | stmp k => exact hD _ h
 | c f ks => exact fun k hk => hD _ (h k hk)
 | fp k p _ _ _ => exact ⟨hD _ h.1, by rw [hρ k h.1]; exact h.2⟩
 | fs k p wd row len d => obtain ⟨⟨h0, h1⟩, h2⟩ := h; refine ⟨⟨hD _ h0, by rw [hρ k h0]; exact h1⟩, ?_⟩; rw [hρ k h0]; exact h2
theorem LV.at_mono {ρ ρ' : Env} {D : Nat -> Prop} (hρ : ∀ k, D k -> ρ' k = ρ k) {x : LV} (h : x.ok ρ D) : x.at ρ' = x.at ρ := by
 cases x with
 | v x => rfl
 | p k _ _ _ => simp only [LV.at]; rw [hρ k h]
 | s k wd row len d => simp only [LV.at]; rw [hρ k h.1]
 | i t k => simp only [LV.at]; rw [hρ k h]
 | io b t k => simp only [LV.at]; rw [hρ k h]
 | mref k => simp only [LV.at]; rw [hρ k h]
 | stmp k => simp only [LV.at]; rw [hρ k h]
 | c f ks =>
  simp only [LV.at]
  congr 2
  apply List.map_congr_left
  intro k hk
  rw [hρ k (h k hk)]
 | fp k p _ _ _ => simp only [LV.at]; rw [hρ k h.1]
 | fs k p wd row len d => simp only [LV.at]; rw [hρ k h.1.1]
theorem ZEs {ρ ρ' : Env} {D : Nat -> Prop} (hρ : ∀ k, D k -> ρ' k = ρ k) {xs : List LV} (h : ∀ x ∈ xs, x.ok ρ D) : xs.map (LV.at ρ') = xs.map (LV.at ρ) :=
 List.map_congr_left fun x hx => LV.at_mono hρ (h x hx)
theorem AV.ok_mono {ρ ρ' : Env} {D D' : Nat -> Prop} (hρ : ∀ k, D k -> ρ' k = ρ k) (hD : ∀ k, D k -> D' k) {x : AV} (h : x.ok ρ D) : x.ok ρ' D' := by
 cases x with
 | l x => exact LV.ok_mono hρ hD h
 | a xs => exact fun x hx => LV.ok_mono hρ hD (h x hx)
theorem AV.at_mono {ρ ρ' : Env} {D : Nat -> Prop} (hρ : ∀ k, D k -> ρ' k = ρ k) {x : AV} (h : x.ok ρ D) : x.at ρ' = x.at ρ := by
 cases x with
 | l x => exact LV.at_mono hρ h
 | a xs => simp only [AV.at]; rw [ZEs hρ h]
theorem SV.ok_mono {ρ ρ' : Env} {D D' : Nat -> Prop} (hρ : ∀ k, D k -> ρ' k = ρ k) (hD : ∀ k, D k -> D' k) {x : SV} (h : x.ok ρ D) : x.ok ρ' D' := by
 cases x with
 | o x => exact AV.ok_mono hρ hD h
 | t xs => exact fun x hx => AV.ok_mono hρ hD (h x hx)
theorem SV.at_mono {ρ ρ' : Env} {D : Nat -> Prop} (hρ : ∀ k, D k -> ρ' k = ρ k) {x : SV} (h : x.ok ρ D) : x.at ρ' = x.at ρ := by
 cases x with
 | o x => exact AV.at_mono hρ h
 | t xs =>
  simp only [SV.at]
  rw [List.map_congr_left fun x hx => AV.at_mono hρ (h x hx)]
def Ent.own : Ent -> Bool
 | .st _ | .ar _ _ _ | .ob _ _ => true
 | .dp o _ => o
 | .mp .. => true
 | .hl .. => true
 | _ => false
def ZDb (R : Loc -> List Nat -> World -> Prop) : Prop := ∀ l F w w', R l F w -> (∀ b ∈ F, w'.heap[b]? = w.heap[b]?) -> R l F w'
def ArAt (wd n : Nat) (f : Nat -> List Value) (l : Loc) (F : List Nat) (w : World) : Prop :=
 (l.nil = true /\ n = 0 /\ F = []) \/ (l.nil = false /\ (l.off = 0 /\ l.spot = none) /\ F = [l.blk] /\ n <= l.cap /\ l.cap <= maxLen /\
   ∃ cs t, w.heap[l.blk]? = some (.cells cs t (0, 0)) /\ cs.size = l.cap * wd /\ ∀ i, i < n -> (f i).length = wd /\ (∀ x ∈ f i, x.oneCell' = true) /\ ∀ j, j < wd -> cs[i * wd + j]? = (f i)[j]?)
def ZCb (sub : List (Nat × Nat) -> Loc0) (p : List (Nat × Nat)) : DV -> Value
 | .v x => x
 | .sl _ n _ => if (sub p).loc.nil then .slice none 0 0 else .slice (some (adr (sub p).loc 0)) n (sub p).loc.cap
def ZBA (sub : List (Nat × Nat) -> Loc0) (wd : Nat) (f : Nat -> Nat -> DV) (i : Nat) : List Value := (List.range wd).map fun c => ZCb sub [(i, c)] (f i c)
def ZDv (sub : List (Nat × Nat) -> Loc0) (d : DV) (Fr Fc : List Nat) (w : World) (p : List (Nat × Nat)) : Prop :=
 ∀ wd n f, (sub p).there = true -> ZAv d p = .sl wd n f -> ((sub p).loc.nil = true -> n = 0) /\ ((sub p).loc.nil = false -> n <= (sub p).loc.cap) /\ ∀ i, i < n -> (sub p).loc.nil = false /\ (sub p).blk ∈ (match p with | [] => Fr | _ => Fc) /\ ∀ c, c < wd ->
  w.cell? (adr (sub p).loc (i * wd + c)) = some (ZCb sub ((i, c) :: p) (f i c)) /\ (ZCb sub ((i, c) :: p) (f i c)).oneCell' = true /\ ∀ wd2 n2 f2, f i c = .sl wd2 n2 f2 -> (sub ((i, c) :: p)).there = true
def ZLN (sub : List (Nat × Nat) -> Loc0) (d : DV) (Fr Fc : List Nat) (w : World) : Prop := ∀ p, ZDv sub d Fr Fc w p
def ZEc (sub : List (Nat × Nat) -> Loc0) (d : DV) : Prop := ∀ p i c, (sub ((i, c) :: p)).there = true -> (sub p).there = true /\ ∃ wd n f, ZAv d p = .sl wd n f /\ i < n /\ c < wd
def DpAt (o : Bool) (d : DV) (l : Loc) (F : List Nat) (w : World) : Prop :=
 (l.sub []).there = true /\ ∃ wd n f Fr Fc, d = .sl wd n f /\ F = Fr ++ Fc /\ (o = true -> (∀ b ∈ Fr, b ∉ Fc) /\ ArAt wd n (ZBA l.sub wd f) (l.sub []).loc Fr w) /\ ZLN l.sub d Fr Fc w /\ ZEc l.sub d
def MpAt (q : KK) (qe : IntKind) (M : Int -> Option Int) (s : Nat) (o : Option (Int × Nat)) (ρ : Env) (D : Nat -> Prop) (b : Nat) (w : World) : Prop :=
 ∃ es clock, w.heap[b]? = some (.map es clock) /\ MapKept.Stamped es clock /\ es.size = s /\ (∀ e ∈ es.toList, ∃ n x, e.key = keyV q n /\ e.val = .int qe x /\ keyR q n /\ M n = some x) /\
  (∀ n x, M n = some x -> ∃ e ∈ es.toList, e.key = keyV q n) /\ match o with | none => True | some (n, j) => D j /\ ∃ e ∈ es.toList, e.key = keyV q n /\ (e.born : Int) = ((ρ j).off : Int)
def ZBl (e : Ent) (ρ : Env) (D : Nat -> Prop) (l : Loc) (F : List Nat) (w : World) : Prop :=
 match e with
 | .st cs => l.nil = false /\ (l.off = 0 /\ l.spot = none) /\ F = [l.blk] /\ (∃ t, w.heap[l.blk]? = some (.cells (cs.map (LV.at ρ)).toArray t (0, 0))) /\ ∀ x ∈ cs, x.ok ρ D
 | .ar wd n f => ArAt wd n f l F w
 | .dp o d => DpAt o d l F w
 | .ro wd n f => (n = 0 /\ F = []) \/ (l.nil = false /\ F = [l.blk] /\ ∀ i, i < n -> (f i).length = wd /\ (∀ x ∈ f i, x.oneCell' = true) /\ ∀ j, j < wd -> w.cell? (adr l (i * wd + j)) = (f i)[j]?)
 | .ob ks R => ZDb (R (ks.map ρ)) /\ (∀ k ∈ ks, D k) /\ R (ks.map ρ) l F w
 | .rd R => ZDb R /\ R l F w
 | .mp q qe M s o => l.nil = false /\ F = [l.blk] /\ MpAt q qe M s o ρ D l.blk w
 | .hl n f i x => (l.nil = false /\ (l.off = 0 /\ l.spot = none) /\ F = [l.blk] /\ n <= l.cap /\ l.cap <= maxLen) /\ (i < n /\ x.ok ρ D) /\ ∃ cs t, w.heap[l.blk]? = some (.cells cs t (0, 0)) /\ cs.size = l.cap * 1 /\
   ∀ j, j < n -> cs[j]? = some (if j = i then x.at ρ else f j) /\ (if j = i then x.at ρ else f j).oneCell' = true
structure HM (h : Heap) (D : Nat -> Prop) (ρ : Env) (φ : Nat -> List Nat) (w : World) : Prop where
 at_ : ∀ k e, hget h k = some e -> ZBl e ρ D (ρ k) (φ k) w
 lt : ∀ k e, hget h k = some e -> D k
 dj : ∀ k k' e e', hget h k = some e -> hget h k' = some e' -> k ≠ k' -> e.own = true -> ∀ b ∈ φ k, b ∉ φ k'
 sz : ∀ k e, hget h k = some e -> ∀ b ∈ φ k, b < w.heap.size
structure Frm (w0 : World) (F0 : Nat -> Prop) (w : World) : Prop where
 size : w0.heap.size <= w.heap.size
 blk : ∀ b, b < w0.heap.size -> ¬ F0 b -> w.heap[b]? = w0.heap[b]?
 os : w.os = w0.os
 tape : w.tape = w0.tape
 output : w.output = w0.output
def ZSJ (w : World) (g : Nat) (vs : List Value) : Prop := ∃ t, w.heap[g]? = some (.cells vs.toArray t (0, 0))
def ZP3 (w : World) : Prop := ∀ g vs, (g, vs) ∈ ZNC -> ZSJ w g vs
def ZP4 (F : Nat -> Prop) : Prop := ∀ g vs, (g, vs) ∈ ZNC -> ¬ F g
structure GM (G : Ctx) (h : Heap) (D : Nat -> Prop) (ρ : Env) (φ : Nat -> List Nat) (w : World) : Prop where
 hm : HM h D ρ φ w
 an : ∀ k, k < G.A -> D k /\ ρ k = G.ρ0 k
 ow : ∀ k e, hget h k = some e -> e.own = true -> ∀ b ∈ φ k, G.F0 b \/ G.w0.heap.size <= b
 frm : Frm G.w0 G.F0 w
 fx : ∀ k e, hget h k = some e -> ∀ b ∈ φ k, G.R0 b \/ G.F0 b \/ G.w0.heap.size <= b
 gb : ZP3 G.w0 /\ ZP4 G.F0
theorem GM.glob {G : Ctx} {h : Heap} {D : Nat -> Prop} {ρ : Env} {φ : Nat -> List Nat} {w : World} (g : GM G h D ρ φ w) : ZP3 w := fun b vs hb => by
 obtain ⟨t, h1⟩ := g.gb.1 b vs hb
 refine ⟨t, ?_⟩
 rw [g.frm.blk b (Array.getElem?_eq_some_iff.1 h1).1 (g.gb.2 b vs hb)]
 exact h1
def RM (r : Regs) (D : Nat -> Prop) (ρ : Env) (a : Act) : Prop := ∀ t x, rget r t = some x -> a.tmps[t]? = some (x.at ρ) /\ x.ok ρ D
def grow (D : Nat -> Prop) (n n' : Nat) : Nat -> Prop := fun k => D k \/ (n <= k /\ k < n')
theorem ZAJ (k : Nat) (e : Option Ent) (h : Heap) (u : Nat) : hget ((k, e) :: h) u = if k = u then e else hget h u := by
 simp only [hget]
 by_cases hk : k = u
 ·subst hk; simp
 ·have : Nat.beq k u = false := by
   cases hb : Nat.beq k u with
   | true => exact absurd (Nat.eq_of_beq_eq_true hb) hk
   | false => rfl
  simp [this, hk]
theorem ZBG (t : Nat) (x : SV) (r : Regs) (u : Nat) : rget ((t, x) :: r) u = if t = u then some x else rget r u := by
 simp only [rget]
 by_cases hk : t = u
 ·subst hk; simp
 ·have : Nat.beq t u = false := by
   cases hb : Nat.beq t u with
   | true => exact absurd (Nat.eq_of_beq_eq_true hb) hk
   | false => rfl
  simp [this, hk]
theorem ArAt.mono {wd n : Nat} {f : Nat -> List Value} {l : Loc} {F : List Nat} {w w' : World} (hw : ∀ b ∈ F, w'.heap[b]? = w.heap[b]?) (h : ArAt wd n f l F w) : ArAt wd n f l F w' := by
 rcases h with h | ⟨h1, h2, rfl, h4, h5, cs, t, h6, h7⟩
 ·exact .inl h
 ·exact .inr ⟨h1, h2, rfl, h4, h5, cs, t, by rw [hw _ (by simp), h6], h7⟩
theorem ZDv.mono {sub : List (Nat × Nat) -> Loc0} {d : DV} {Fr Fc : List Nat} {w w' : World} {p : List (Nat × Nat)} (hr : p = [] -> ∀ b ∈ Fr, w'.heap[b]? = w.heap[b]?) (hc : ∀ b ∈ Fc, w'.heap[b]? = w.heap[b]?) (h : ZDv sub d Fr Fc w p) : ZDv sub d Fr Fc w' p := by
 intro wd n f ht hd
 obtain ⟨h1, h2, h3⟩ := h wd n f ht hd
 refine ⟨h1, h2, fun i hi => ?_⟩
 obtain ⟨h4, h5, h6⟩ := h3 i hi
 refine ⟨h4, h5, fun c hc' => ?_⟩
 obtain ⟨h7, h8⟩ := h6 c hc'
 refine ⟨?_, h8⟩
 rw [<- h7]
 simp only [World.cell?, adr]
 have : w'.heap[((sub p).loc).blk]? = w.heap[((sub p).loc).blk]? := by
  cases p with
  | nil => exact hr rfl _ h5
  | cons x p => exact hc _ h5
 rw [this]
theorem ZLN.mono {sub : List (Nat × Nat) -> Loc0} {d : DV} {Fr Fc : List Nat} {w w' : World} (hr : ∀ b ∈ Fr, w'.heap[b]? = w.heap[b]?) (hc : ∀ b ∈ Fc, w'.heap[b]? = w.heap[b]?) (h : ZLN sub d Fr Fc w) : ZLN sub d Fr Fc w' := by
 exact fun p => (h p).mono (fun _ => hr) hc
theorem ZBl.mono {e : Ent} {ρ ρ' : Env} {D D' : Nat -> Prop} {l : Loc} {F : List Nat} {w w' : World} (hρ : ∀ k, D k -> ρ' k = ρ k) (hD : ∀ k, D k -> D' k)
  (hw : ∀ b ∈ F, w'.heap[b]? = w.heap[b]?) (h : ZBl e ρ D l F w) : ZBl e ρ' D' l F w' := by
 cases e with
 | st cs =>
  obtain ⟨h1, h2, rfl, ⟨t, h4⟩, h5⟩ := h
  exact ⟨h1, h2, rfl, ⟨t, by rw [hw _ (by simp), h4, ZEs hρ h5]⟩, fun x hx => LV.ok_mono hρ hD (h5 x hx)⟩
 | ar wd n f =>
  exact ArAt.mono hw h
 | dp o d =>
  obtain ⟨h1, wd, n, f, Fr, Fc, h2, rfl, h3, h4⟩ := h
  exact ⟨h1, wd, n, f, Fr, Fc, h2, rfl, fun ho => ⟨(h3 ho).1, (h3 ho).2.mono fun b hb => hw b (by simp [hb])⟩, h4.1.mono (fun b hb => hw b (by simp [hb])) (fun b hb => hw b (by simp [hb])), h4.2⟩
 | ro wd n f =>
  rcases h with h | ⟨h1, rfl, h3⟩
  ·exact .inl h
  ·refine .inr ⟨h1, rfl, fun i hi => ⟨(h3 i hi).1, (h3 i hi).2.1, fun j hj => ?_⟩⟩
   rw [<- (h3 i hi).2.2 j hj]
   simp only [World.cell?, adr]
   rw [hw _ (by simp)]
 | ob ks R =>
  obtain ⟨h1, h2, h3⟩ := h
  have e : ks.map ρ' = ks.map ρ := List.map_congr_left fun k hk => hρ k (h2 k hk)
  rw [ZBl, e]
  exact ⟨h1, fun k hk => hD k (h2 k hk), h1 _ _ _ _ h3 hw⟩
 | rd R => exact ⟨h.1, h.1 _ _ _ _ h.2 hw⟩
 | mp q qe M s o =>
  obtain ⟨h1, rfl, es, clock, h2, h3, h4, h5, h6, h7⟩ := h
  refine ⟨h1, rfl, es, clock, by rw [hw _ (by simp)]; exact h2, h3, h4, h5, h6, ?_⟩
  cases o with
  | none => trivial
  | some p => exact ⟨hD _ h7.1, by rw [hρ _ h7.1]; exact h7.2⟩
 | hl n f i x =>
  obtain ⟨⟨h1, h2, rfl, h3⟩, ⟨h4, h5⟩, cs, t, h6, h7, h8⟩ := h
  refine ⟨⟨h1, h2, rfl, h3⟩, ⟨h4, LV.ok_mono hρ hD h5⟩, cs, t, by rw [hw _ (by simp)]; exact h6, h7, ?_⟩
  rw [LV.at_mono hρ h5]; exact h8
theorem GM.put {G : Ctx} {h : Heap} {D D' : Nat -> Prop} {ρ ρ' : Env} {φ : Nat -> List Nat} {w w' : World} (g : GM G h D ρ φ w) (k0 : Nat) (e0 : Ent) (F : List Nat)
  (hρ : ∀ k, D k -> ρ' k = ρ k) (hD : ∀ k, D k -> D' k) (hk0 : D' k0)
  (hw : ∀ k e, hget h k = some e -> k ≠ k0 -> ∀ b ∈ φ k, w'.heap[b]? = w.heap[b]?)
  (he : ZBl e0 ρ' D' (ρ' k0) F w') (hF : ∀ b ∈ F, b < w'.heap.size)
  (hdj : ∀ k e, hget h k = some e -> k ≠ k0 -> ∀ b ∈ φ k, b ∉ F)
  (how : e0.own = true -> ∀ b ∈ F, G.F0 b \/ G.w0.heap.size <= b) (hf : Frm G.w0 G.F0 w') (hsz : w.heap.size <= w'.heap.size)
  (hfx : e0.own = false -> ∀ b ∈ F, G.R0 b \/ G.F0 b \/ G.w0.heap.size <= b := by intro h; cases h) :
  GM G ((k0, some e0) :: h) D' ρ' (fun k => if k = k0 then F else φ k) w' where
 hm := {
  at_ := fun k e hk => by
   rw [ZAJ] at hk
   by_cases hh : k0 = k
   ·subst hh; simp at hk; subst hk; simpa using he
   ·rw [if_neg hh] at hk
    have hd := g.hm.lt k e hk
    simp only [if_neg (Ne.symm hh), hρ k hd]
    exact ZBl.mono hρ hD (hw k e hk (Ne.symm hh)) (g.hm.at_ k e hk)
  lt := fun k e hk => by
   rw [ZAJ] at hk
   by_cases hh : k0 = k
   ·subst hh; exact hk0
   ·rw [if_neg hh] at hk; exact hD _ (g.hm.lt k e hk)
  dj := fun k k' e e' hk hk' hne ho b hb hb' => by
   rw [ZAJ] at hk hk'
   by_cases hh : k0 = k
   ·subst hh
    rw [if_neg hne] at hk'
    simp only [if_neg (Ne.symm hne), if_true] at hb hb'
    exact hdj k' e' hk' (Ne.symm hne) b hb' hb
   ·rw [if_neg hh] at hk
    rw [if_neg (Ne.symm hh)] at hb
    by_cases hh' : k0 = k'
    ·subst hh'
     simp only [if_true] at hb'
     exact hdj k e hk (Ne.symm hh) b hb hb'
    ·rw [if_neg hh'] at hk'
     rw [if_neg (Ne.symm hh')] at hb'
     exact g.hm.dj k k' e e' hk hk' hne ho b hb hb'
  sz := fun k e hk b hb => by
   rw [ZAJ] at hk
   by_cases hh : k0 = k
   ·subst hh; simp only [if_true] at hb; exact hF b hb
   ·rw [if_neg hh] at hk
    rw [if_neg (Ne.symm hh)] at hb
    exact Nat.lt_of_lt_of_le (g.hm.sz k e hk b hb) hsz }
 an := fun k hk => ⟨hD _ (g.an k hk).1, by rw [hρ k (g.an k hk).1]; exact (g.an k hk).2⟩
 ow := fun k e hk ho b hb => by
  rw [ZAJ] at hk
  by_cases hh : k0 = k
  ·subst hh; simp at hk; subst hk; simp only [if_true] at hb; exact how ho b hb
  ·rw [if_neg hh] at hk
   rw [if_neg (Ne.symm hh)] at hb
   exact g.ow k e hk ho b hb
 frm := hf
 fx := fun k e hk b hb => by
  rw [ZAJ] at hk
  by_cases hh : k0 = k
  ·subst hh; simp at hk; subst hk; simp only [if_true] at hb
   cases ho : e0.own with
   | true => exact .inr (how ho b hb)
   | false => exact hfx ho b hb
  ·rw [if_neg hh] at hk
   rw [if_neg (Ne.symm hh)] at hb
   exact g.fx k e hk b hb
 gb := g.gb
theorem GM.drop {G : Ctx} {h : Heap} {D : Nat -> Prop} {ρ : Env} {φ : Nat -> List Nat} {w : World} (g : GM G h D ρ φ w) (k0 : Nat) : GM G ((k0, none) :: h) D ρ φ w := by
 have hh : ∀ k e, hget ((k0, none) :: h) k = some e -> hget h k = some e := fun k e hk => by
  rw [ZAJ] at hk
  split at hk
  ·cases hk
  ·exact hk
 exact ⟨⟨fun k e hk => g.hm.at_ k e (hh k e hk), fun k e hk => g.hm.lt k e (hh k e hk), fun k k' e e' hk hk' => g.hm.dj k k' e e' (hh k e hk) (hh k' e' hk'), fun k e hk => g.hm.sz k e (hh k e hk)⟩,
  g.an, fun k e hk => g.ow k e (hh k e hk), g.frm, fun k e hk => g.fx k e (hh k e hk), g.gb⟩
theorem GM.mono {G : Ctx} {h : Heap} {D D' : Nat -> Prop} {ρ ρ' : Env} {φ : Nat -> List Nat} {w w' : World} (g : GM G h D ρ φ w) (hρ : ∀ k, D k -> ρ' k = ρ k) (hD : ∀ k, D k -> D' k)
  (hw : ∀ k e, hget h k = some e -> ∀ b ∈ φ k, w'.heap[b]? = w.heap[b]?) (hf : Frm G.w0 G.F0 w') (hsz : w.heap.size <= w'.heap.size) : GM G h D' ρ' φ w' :=
 ⟨⟨fun k e hk => by rw [hρ k (g.hm.lt k e hk)]; exact ZBl.mono hρ hD (hw k e hk) (g.hm.at_ k e hk), fun k e hk => hD _ (g.hm.lt k e hk), g.hm.dj, fun k e hk b hb => Nat.lt_of_lt_of_le (g.hm.sz k e hk b hb) hsz⟩,
  fun k hk => ⟨hD _ (g.an k hk).1, by rw [hρ k (g.an k hk).1]; exact (g.an k hk).2⟩, g.ow, hf, g.fx, g.gb⟩
theorem Frm.drew {w0 : World} {F0 : Nat -> Prop} {w : World} (h : Frm w0 F0 w) : Frm w0 F0 w.drew := ⟨h.size, h.blk, h.os, h.tape, h.output⟩
theorem RM.mono {r : Regs} {D D' : Nat -> Prop} {ρ ρ' : Env} {a : Act} (h : RM r D ρ a) (hρ : ∀ k, D k -> ρ' k = ρ k) (hD : ∀ k, D k -> D' k) : RM r D' ρ' a := fun t x hx => by
 obtain ⟨h1, h2⟩ := h t x hx
 exact ⟨by rw [h1, SV.at_mono hρ h2], SV.ok_mono hρ hD h2⟩
theorem RM.put {r : Regs} {D : Nat -> Prop} {ρ : Env} {a : Act} {d : Nat} {x : SV} (h : RM r D ρ a) (hd : d < a.tmps.size) (hx : x.ok ρ D) : RM ((d, x) :: r) D ρ (a.put (some d) (x.at ρ)) := fun t y hy => by
 rw [ZBG] at hy
 simp only [Act.put]
 by_cases ht : d = t
 ·subst ht
  simp at hy
  subst hy
  exact ⟨by simp [hd], hx⟩
 ·rw [if_neg ht] at hy
  exact ⟨by rw [Array.getElem?_setIfInBounds_ne ht]; exact (h t y hy).1, (h t y hy).2⟩
theorem RM.renew {r : Regs} {D : Nat -> Prop} {ρ : Env} {a : Act} {d : Nat} {x : SV} (h : RM r D ρ a) (hd : a.tmps[d]? = some (x.at ρ)) (hx : x.ok ρ D) : RM ((d, x) :: r) D ρ a := fun t y hy => by
 rw [ZBG] at hy
 by_cases ht : d = t
 ·subst ht; simp at hy; subst hy; exact ⟨hd, hx⟩
 ·rw [if_neg ht] at hy; exact h t y hy
theorem ZAF {r : Regs} {D : Nat -> Prop} {ρ : Env} {a : Act} (h : RM r D ρ a) {X : Operand} {x : O} {v : AV} (hc : cO X = some x) (hv : oget r x = some v) : a.eval X = v.at ρ /\ v.ok ρ D := by
 cases X with
 | tmp t =>
  simp [cO] at hc; subst hc
  simp only [oget] at hv
  split at hv
  ·rename_i y hy
   simp at hv; subst hv
   obtain ⟨h1, h2⟩ := h t _ hy
   refine ⟨?_, h2⟩
   simp [Act.eval, h1, SV.at]
  ·cases hv
 | const u =>
  have key : (∃ cs, u = .agg cs /\ x = .c (.a (cs.toList.map LV.v))) \/ x = .c (.l (.v u)) := by
   cases u <;> simp [cO] at hc <;> first | (right; exact hc.symm) | (left; exact ⟨_, rfl, hc.symm⟩)
  rcases key with ⟨cs, rfl, rfl⟩ | rfl
  ·simp only [oget, Option.some.injEq] at hv; subst hv
   refine ⟨?_, fun y hy => by simp at hy; obtain ⟨z, _, rfl⟩ := hy; trivial⟩
   simp only [Act.eval, AV.at, List.map_map]
   congr 1
   apply Array.ext'
   simp [Function.comp_def, LV.at]
  ·simp only [oget, Option.some.injEq] at hv; subst hv
   exact ⟨rfl, trivial⟩
 | global g =>
  simp [cO] at hc; subst hc
  simp only [oget, Option.some.injEq] at hv; subst hv
  exact ⟨rfl, trivial⟩
 | func f =>
  simp [cO] at hc; subst hc
  simp only [oget, Option.some.injEq] at hv; subst hv
  exact ⟨rfl, fun k hk => by cases hk⟩
theorem ZDc {r : Regs} {D : Nat -> Prop} {ρ : Env} {a : Act} (h : RM r D ρ a) : ∀ {Xs : List Operand} {xs : List O} {vs : List AV}, cOs Xs = some xs -> ogets r xs = some vs ->
  Xs.map a.eval = vs.map (AV.at ρ) /\ ∀ v ∈ vs, v.ok ρ D
 | [], xs, vs, hc, hv => by
  simp [cOs] at hc; subst hc
  simp [ogets] at hv; subst hv
  simp
 | X :: Xs, xs, vs, hc, hv => by
  simp only [cOs] at hc
  split at hc
  ·rename_i y ys hy hys
   simp at hc; subst hc
   simp only [ogets] at hv
   split at hv
   ·rename_i v vs' hv1 hv2
    simp at hv; subst hv
    obtain ⟨h1, h2⟩ := ZAF h hy hv1
    obtain ⟨h3, h4⟩ := ZDc h hys hv2
    exact ⟨by simp [h1, h3], by simpa using ⟨h2, h4⟩⟩
   ·cases hv
  ·cases hc
end Go.Sx
