/- part -/
import Derived.Test.YtlkfolopbehikaaGreatSxT
import Derived.OpenShut
import Derived.WideShapes
import Derived.ChangeOld
set_option linter.unusedSimpArgs false
set_option linter.unusedVariables false
namespace Go.Sx
open Go
inductive Col where
 | b
 | i (k : IntKind)
 | s
 | sl (e : TypeId)
 deriving DecidableEq
def Col.prim : Col -> Bool
 | .sl _ => false
 | _ => true
def ZB5 (cols : TypeId -> Option (List Col)) (size : TypeId -> Nat) : Nat -> List Field -> Option (List Col)
 | _, [] => some []
 | o, f :: fs => match cols f.type, ZB5 cols size (o + size f.type) fs with
  | some c, some cs => if f.offset = o /\ c.length = size f.type then some (c ++ cs) else none
  | _, _ => none
def ZC1 (P : Program) : Nat -> TypeId -> Option (List Col)
 | 0, _ => none
 | m + 1, t => match P.underlying t with
  | some .bool => some [.b]
  | some (.int k) => some [.i k]
  | some .string => some [.s]
  | some (.slice e) => some [.sl e]
  | some (.struct fs) => match ZB5 (ZC1 P m) P.cellsOf 0 fs.toList with
   | some cs => if cs.length = P.cellsOf t then some cs else none
   | none => none
  | some (.array n e) => match ZC1 P m e with
   | some cs => if cs.length = P.cellsOf e /\ n * cs.length = P.cellsOf t then some (List.replicate n cs).flatten else none
   | none => none
  | _ => none
def ZNT (P : Program) (e : TypeId) : Option (List Col) := match ZC1 P 6 e with
 | some cs => if cs.all Col.prim = true /\ 0 < cs.length /\ cs.length = P.cellsOf e then some cs else none
 | none => none
structure Chk where
 e : Ent
 lv : Nat -> LV
 l : Loc
 F : List Nat
def ZPI : Col -> Value -> Prop
 | .b, v => ∃ b, v = .bool b
 | .i k, v => ∃ n, v = .int k n /\ k.min <= n /\ n <= k.max
 | .s, v => ∃ s, v = .string s /\ s.size <= maxLen
 | .sl _, _ => False
def ZC2 : List Col -> List Value -> Prop
 | [], [] => True
 | c :: cs, v :: vs => ZPI c v /\ ZC2 cs vs
 | _, _ => False
inductive LT where
 | leaf
 | node (l : Loc0) (g : Nat -> Nat -> LT)
def DvT (w : World) (bl : List Nat) : DV -> LT -> Value -> Prop
 | .v x, _, z => z = x /\ x.oneCell' = true
 | .sl wd n f, .node l g, z => z = (if l.loc.nil then .slice none 0 0 else .slice (some (adr l.loc 0)) n l.cap) /\ (l.loc.nil = true -> n = 0) /\ (l.loc.nil = false -> n <= l.loc.cap) /\
   ∀ i, i < n -> l.loc.nil = false /\ l.blk ∈ bl /\ ∀ c, c < wd -> ∃ z', w.cell? (adr l.loc (i * wd + c)) = some z' /\ DvT w bl (f i c) (g i c) z'
 | .sl _ _ _, .leaf, _ => False
def Lim (P : Program) (e : TypeId) (n : Nat) : Prop := n <= maxLen /\ n * P.bytesOf e <= reachBytes
theorem lim0 (P : Program) (e : TypeId) : Lim P e 0 := ⟨by unfold maxLen; simp, by simp⟩
def DVT (P : Program) : Nat -> Col -> DV -> Prop
 | _, .b, d => ∃ b, d = .v (.bool b)
 | _, .i k, d => ∃ n, d = .v (.int k n) /\ k.min <= n /\ n <= k.max
 | _, .s, d => ∃ s, d = .v (.string s) /\ s.size <= maxLen
 | 0, .sl _, _ => False
 | m + 1, .sl e, d => ∃ n f cols, ZC1 P 6 e = some cols /\ 0 < cols.length /\ d = .sl cols.length n f /\ Lim P e n /\ ∀ i, i < n -> ∀ c col, cols[c]? = some col -> DVT P m col (f i c)
def ZHw (P : Program) : Nat -> Col -> Bool
 | 0, .sl _ => false
 | m + 1, .sl e => match ZC1 P 6 e with
  | some cols => decide (cols.length = P.cellsOf e) && decide (0 < cols.length) && cols.all (ZHw P m)
  | none => false
 | _, _ => true
def ZGA (P : Program) (w : World) (bl : List Nat) (m : Nat) : List Col -> List Value -> List DV -> List LT -> Prop
 | [], [], [], [] => True
 | c :: cs, v :: vs, d :: ds, t :: ts => DVT P m c d /\ DvT w bl d t v /\ ZGA P w bl m cs vs ds ts
 | _, _, _, _ => False
inductive OC where
 | v (x : Value)
 | c (k : Chk)
def OCT (P : Program) : Col -> OC -> Prop
 | .sl e, x => (∃ cols n f l F, x = .c ⟨.ro cols.length n f, fun k => .s k cols.length 0 n 0, l, F⟩ /\ ZNT P e = some cols /\ Lim P e n /\ ∀ i, i < n -> ZC2 cols (f i)) \/
   (ZNT P e = none /\ ∃ wd n f l F, x = .c ⟨.dp false (.sl wd n f), fun k => .fs k [] wd 0 n 0, l, F⟩ /\ DVT P 4 (.sl e) (.sl wd n f))
 | c, x => ∃ v, x = .v v /\ ZPI c v
def OCAt (w : World) (bl : List Nat) : OC -> Value -> Prop
 | .v x, y => y = x
 | .c ch, y => (∀ (ρ : Env) (D : Nat -> Prop) k, ρ k = ch.l -> D k -> (ch.lv k).at ρ = y /\ (ch.lv k).ok ρ D) /\ ch.e.own = false /\ (∀ ρ D, ZBl ch.e ρ D ch.l ch.F w) /\ ∀ b ∈ ch.F, b ∈ bl
def ZC5 (P : Program) (w : World) (bl : List Nat) : List Col -> List Value -> List OC -> Prop
 | [], [], [] => True
 | c :: cs, v :: vs, x :: xs => OCT P c x /\ OCAt w bl x v /\ ZC5 P w bl cs vs xs
 | _, _, _ => False
def Fits (P : Program) (w : World) (bl : List Nat) (cs : List Col) (vs : List Value) : Prop := ∃ xs, ZC5 P w bl cs vs xs
theorem Fits.nil {P : Program} {w : World} {bl : List Nat} : Fits P w bl [] [] := ⟨[], trivial⟩
theorem ZC5.cons_inv {P : Program} {w : World} {bl : List Nat} {c : Col} {cs : List Col} {vs : List Value} {xs : List OC} (h : ZC5 P w bl (c :: cs) vs xs) : ∃ v vs' x xs', vs = v :: vs' /\ xs = x :: xs' /\ OCT P c x /\ OCAt w bl x v /\ ZC5 P w bl cs vs' xs' := by
 cases vs with
 | nil => exact h.elim
 | cons v vs =>
  cases xs with
  | nil => exact h.elim
  | cons x xs => exact ⟨v, vs, x, xs, rfl, rfl, h⟩
theorem ZC5.nil_inv {P : Program} {w : World} {bl : List Nat} {vs : List Value} {xs : List OC} (h : ZC5 P w bl [] vs xs) : vs = [] /\ xs = [] := by
 cases vs with
 | nil =>
  cases xs with
  | nil => exact ⟨rfl, rfl⟩
  | cons x xs => exact h.elim
 | cons v vs => exact h.elim
theorem ZC5.append {P : Program} {w : World} {bl : List Nat} {c1 v1 x1 c2 v2 x2} (h1 : ZC5 P w bl c1 v1 x1) (h2 : ZC5 P w bl c2 v2 x2) : ZC5 P w bl (c1 ++ c2) (v1 ++ v2) (x1 ++ x2) := by
 induction c1 generalizing v1 x1 with
 | nil =>
  obtain ⟨rfl, rfl⟩ := h1.nil_inv
  exact h2
 | cons c cs ih =>
  obtain ⟨v, vs, x, xs, rfl, rfl, k1, k2, k3⟩ := h1.cons_inv
  exact ⟨k1, k2, ih k3⟩
theorem Fits.append {P : Program} {w : World} {bl : List Nat} {c1 v1 c2 v2} (h1 : Fits P w bl c1 v1) (h2 : Fits P w bl c2 v2) : Fits P w bl (c1 ++ c2) (v1 ++ v2) := by
 obtain ⟨x1, h1⟩ := h1
 obtain ⟨x2, h2⟩ := h2
 exact ⟨x1 ++ x2, h1.append h2⟩
theorem ZC5.len {P : Program} {w : World} {bl : List Nat} {cs vs xs} (h : ZC5 P w bl cs vs xs) : vs.length = cs.length /\ xs.length = cs.length := by
 induction cs generalizing vs xs with
 | nil => obtain ⟨rfl, rfl⟩ := h.nil_inv; exact ⟨rfl, rfl⟩
 | cons c cs ih =>
  obtain ⟨v, vs, x, xs, rfl, rfl, _, _, k3⟩ := h.cons_inv
  have := ih k3
  simp [this]
theorem Fits.len {P : Program} {w : World} {bl : List Nat} {cs vs} (h : Fits P w bl cs vs) : vs.length = cs.length := by obtain ⟨xs, h⟩ := h; exact h.len.1
theorem OCAt.mono {w : World} {bl bl' : List Nat} (hb : ∀ b ∈ bl, b ∈ bl') {x : OC} {v : Value} (h : OCAt w bl x v) : OCAt w bl' x v := by
 cases x with
 | v x => exact h
 | c ch => exact ⟨h.1, h.2.1, h.2.2.1, fun b hx => hb b (h.2.2.2 b hx)⟩
theorem ZC5.mono {P : Program} {w : World} {bl bl' : List Nat} (hb : ∀ b ∈ bl, b ∈ bl') {cs vs xs} (h : ZC5 P w bl cs vs xs) : ZC5 P w bl' cs vs xs := by
 induction cs generalizing vs xs with
 | nil => obtain ⟨rfl, rfl⟩ := h.nil_inv; exact h
 | cons c cs ih =>
  obtain ⟨v, vs, x, xs, rfl, rfl, k1, k2, k3⟩ := h.cons_inv
  exact ⟨k1, k2.mono hb, ih k3⟩
theorem Fits.mono {P : Program} {w : World} {bl bl' : List Nat} (hb : ∀ b ∈ bl, b ∈ bl') {cs vs} (h : Fits P w bl cs vs) : Fits P w bl' cs vs := by obtain ⟨xs, h⟩ := h; exact ⟨xs, h.mono hb⟩
theorem ZC5.prims {P : Program} {w : World} {bl : List Nat} {cs vs xs} (h : ZC5 P w bl cs vs xs) (hp : cs.all Col.prim = true) : ZC2 cs vs := by
 induction cs generalizing vs xs with
 | nil => obtain ⟨rfl, rfl⟩ := h.nil_inv; trivial
 | cons c cs ih =>
  obtain ⟨v, vs, x, xs, rfl, rfl, h1, h2, h3⟩ := h.cons_inv
  simp only [List.all_cons, Bool.and_eq_true] at hp
  refine ⟨?_, ih h3 hp.2⟩
  cases c with
  | sl e => simp [Col.prim] at hp
  | b => obtain ⟨y, rfl, h1⟩ := h1; cases h2; exact h1
  | i k => obtain ⟨y, rfl, h1⟩ := h1; cases h2; exact h1
  | s => obtain ⟨y, rfl, h1⟩ := h1; cases h2; exact h1
theorem ZPI.one {c : Col} {v : Value} (h : ZPI c v) : v.oneCell' = true := by
 cases c with
 | b => obtain ⟨b, rfl⟩ := h; rfl
 | i k => obtain ⟨n, rfl, _⟩ := h; rfl
 | s => obtain ⟨s, rfl, _⟩ := h; rfl
 | sl e => exact h.elim
theorem ZC2.one : ∀ {cs vs}, ZC2 cs vs -> vs.length = cs.length /\ ∀ x ∈ vs, x.oneCell' = true
 | [], [], _ => ⟨rfl, fun x hx => by cases hx⟩
 | c :: cs, v :: vs, h => by
  obtain ⟨h1, h2⟩ := h.2.one
  refine ⟨by simp [h1], fun x hx => ?_⟩
  rcases List.mem_cons.1 hx with rfl | hx
  ·exact h.1.one
  ·exact h2 x hx
theorem ZPJ (a : Addr) (m n : Nat) : (a.add m).add n = a.add (m + n) := by
 unfold Addr.add
 by_cases h1 : m = 0
 ·subst h1; simp
 ·by_cases h2 : n = 0
  ·subst h2; simp
  ·have : ¬ m + n = 0 := by omega
   simp [h1, h2, this, Nat.add_assoc]
theorem ZHx {a : Addr} (l : Loc) (h1 : l.blk = a.block) (h2 : l.off = a.off) (h : l.spot = a.spot) (n : Nat) : adr l n = a.add n := by
 obtain ⟨b, o, s⟩ := a
 simp only at h h1 h2
 unfold Addr.add adr
 split
 ·rename_i h0; subst h0; simp [h1, h2, h]
 ·rename_i h0; simp [h1, h2, h0]
section
variable {H : Type} {enc : TypeId × Value -> H} {P : Program} {w : World} {spare : Nat -> Bool} {held : Bool}
omit H enc spare held w in
theorem ZDP {cols : TypeId -> Option (List Col)} : ∀ (fs : List Field) (o : Nat) (cs : List Col), ZB5 cols P.cellsOf o fs = some cs -> ∀ f ∈ fs, ∀ c, cols f.type = some c -> (∀ y ∈ c, y ∈ cs) /\ c.length = P.cellsOf f.type
 | [], o, cs, h, f, hf, _, _ => by cases hf
 | g :: fs, o, cs, h, f, hf, c, hcf => by
  simp only [ZB5] at h
  split at h
  ·rename_i c1 cs' hc hcs
   split at h
   ·rename_i hx
    simp only [Option.some.injEq] at h; subst h
    rcases List.mem_cons.1 hf with rfl | hf
    ·rw [hc] at hcf; cases hcf
     exact ⟨fun y hy => List.mem_append.2 (.inl hy), hx.2⟩
    ·obtain ⟨h1, h2⟩ := ZDP fs _ _ hcs f hf c hcf
     exact ⟨fun y hy => List.mem_append.2 (.inr (h1 y hy)), h2⟩
   ·cases h
  ·cases h
theorem ZFv {Q : List Col -> List Value -> Prop} (hnil : Q [] []) (happ : ∀ c1 v1 c2 v2, Q c1 v1 -> Q c2 v2 -> Q (c1 ++ c2) (v1 ++ v2)) {cols : TypeId -> Option (List Col)} : ∀ (fs : List Field) (o : Nat) (cs : List Col) (vs : List Value), ZB5 cols P.cellsOf o fs = some cs -> o + cs.length <= vs.length ->
  (∀ f ∈ fs, ∀ c, cols f.type = some c -> Q c ((vs.drop f.offset).take (P.cellsOf f.type))) -> Q cs ((vs.drop o).take cs.length)
 | [], o, cs, vs, h, hl, hf => by simp [ZB5] at h; subst h; simpa using hnil
 | f :: fs, o, cs, vs, h, hl, hf => by
  simp only [ZB5] at h
  split at h
  ·rename_i c cs' hc hcs
   split at h
   ·rename_i hx
    obtain ⟨h1, h2⟩ := hx
    simp only [Option.some.injEq] at h; subst h
    simp only [List.length_append] at hl ⊢
    have a := hf f (by simp) c hc
    have b := ZFv hnil happ fs _ _ vs hcs (by omega) (fun g hg => hf g (by simp [hg]))
    rw [h1] at a
    have := happ _ _ _ _ a b
    rw [show c.length + cs'.length = P.cellsOf f.type + cs'.length by omega, List.take_add]
    rwa [List.drop_drop]
   ·cases h
  ·cases h
theorem ZG7 {Q : List Col -> List Value -> Prop} (hnil : Q [] []) (happ : ∀ c1 v1 c2 v2, Q c1 v1 -> Q c2 v2 -> Q (c1 ++ c2) (v1 ++ v2)) {c : List Col} (vs : List Value) : ∀ (n o : Nat), o + n * c.length <= vs.length -> (∀ i, i < n -> Q c ((vs.drop (o + i * c.length)).take c.length)) -> Q (List.replicate n c).flatten ((vs.drop o).take (n * c.length))
 | 0, o, _, _ => by simpa using hnil
 | n + 1, o, hl, hf => by
  have a := hf 0 (by omega)
  have e : (n + 1) * c.length = c.length + n * c.length := by rw [Nat.add_mul]; omega
  rw [e] at hl ⊢
  have b : Q (List.replicate n c).flatten ((vs.drop (o + c.length)).take (n * c.length)) := ZG7 hnil happ vs n (o + c.length) (by omega) (fun i hi => by
   have := hf (i + 1) (by omega)
   rwa [show o + (i + 1) * c.length = o + c.length + i * c.length by rw [Nat.add_mul]; omega] at this)
  simp only [Nat.zero_mul, Nat.add_zero] at a
  have := happ _ _ _ _ a b
  simp only [List.replicate_succ, List.flatten_cons]
  rw [List.take_add]
  rwa [List.drop_drop]
theorem ZLd {bl : List Nat} {cols : TypeId -> Option (List Col)} (fs : List Field) (o : Nat) (cs : List Col) (vs : List Value) (h : ZB5 cols P.cellsOf o fs = some cs) (hl : o + cs.length <= vs.length)
  (hf : ∀ f ∈ fs, ∀ c, cols f.type = some c -> Fits P w bl c ((vs.drop f.offset).take (P.cellsOf f.type))) : Fits P w bl cs ((vs.drop o).take cs.length) :=
 ZFv (Q := Fits P w bl) Fits.nil (fun _ _ _ _ a b => a.append b) fs o cs vs h hl hf
theorem ZNU {bl : List Nat} {c : List Col} (vs : List Value) (n o : Nat) (hl : o + n * c.length <= vs.length) (hf : ∀ i, i < n -> Fits P w bl c ((vs.drop (o + i * c.length)).take c.length)) : Fits P w bl (List.replicate n c).flatten ((vs.drop o).take (n * c.length)) :=
 ZG7 (Q := Fits P w bl) Fits.nil (fun _ _ _ _ a b => a.append b) vs n o hl hf
def ZNV (P : Program) (w : World) (bl : List Nat) (m : Nat) (cs : List Col) (vs : List Value) : Prop := ∃ ds ts, ZGA P w bl m cs vs ds ts
theorem ZGA.append {bl : List Nat} {m : Nat} : ∀ {c1 v1 d1 t1 c2 v2 d2 t2}, ZGA P w bl m c1 v1 d1 t1 -> ZGA P w bl m c2 v2 d2 t2 -> ZGA P w bl m (c1 ++ c2) (v1 ++ v2) (d1 ++ d2) (t1 ++ t2)
 | [], [], [], [], _, _, _, _, _, h2 => h2
 | c :: cs, v :: vs, d :: ds, t :: ts, _, _, _, _, h1, h2 => ⟨h1.1, h1.2.1, h1.2.2.append h2⟩
theorem DvT.mono {bl bl' : List Nat} (hb : ∀ b ∈ bl, b ∈ bl') : ∀ (d : DV) (t : LT) (v : Value), DvT w bl d t v -> DvT w bl' d t v
 | .v x, t, v, h => h
 | .sl wd n f, .node l g, v, h => ⟨h.1, h.2.1, h.2.2.1, fun i hi => ⟨(h.2.2.2 i hi).1, hb _ (h.2.2.2 i hi).2.1, fun c hc => by
   obtain ⟨z, h1, h2⟩ := (h.2.2.2 i hi).2.2 c hc
   exact ⟨z, h1, DvT.mono hb (f i c) (g i c) z h2⟩⟩⟩
 | .sl wd n f, .leaf, v, h => h.elim
theorem ZGA.mono {bl bl' : List Nat} {m : Nat} (hb : ∀ b ∈ bl, b ∈ bl') : ∀ {c v d t}, ZGA P w bl m c v d t -> ZGA P w bl' m c v d t
 | [], [], [], [], h => h
 | c :: cs, v :: vs, d :: ds, t :: ts, h => ⟨h.1, h.2.1.mono hb, h.2.2.mono hb⟩
theorem ZNV.mono {bl bl' : List Nat} {m : Nat} (hb : ∀ b ∈ bl, b ∈ bl') {c v} (h : ZNV P w bl m c v) : ZNV P w bl' m c v := by obtain ⟨ds, ts, h⟩ := h; exact ⟨ds, ts, h.mono hb⟩
theorem ZGA.get {bl : List Nat} {m : Nat} : ∀ {cs vs ds ts}, ZGA P w bl m cs vs ds ts -> vs.length = cs.length /\ ds.length = cs.length /\ ts.length = cs.length /\ ∀ (j : Nat) c, cs[j]? = some c -> ∃ v d t, vs[j]? = some v /\ ds[j]? = some d /\ ts[j]? = some t /\ DVT P m c d /\ DvT w bl d t v
 | [], [], [], [], h => ⟨rfl, rfl, rfl, fun j c hc => by simp at hc⟩
 | c :: cs, v :: vs, d :: ds, t :: ts, h => by
  obtain ⟨h1, h2, h3, h4⟩ := h.2.2.get
  refine ⟨by simp [h1], by simp [h2], by simp [h3], fun j c' hc => ?_⟩
  cases j with
  | zero => simp at hc; subst hc; exact ⟨v, d, t, rfl, rfl, rfl, h.1, h.2.1⟩
  | succ j => simpa using h4 j c' (by simpa using hc)
def ZCC (d : DV) (t : LT) : List (Nat × Nat) -> Option (DV × LT)
 | [] => some (d, t)
 | (i, c) :: p => match ZCC d t p with
  | some (.sl wd n f, .node _ g) => if i < n /\ c < wd then some (f i c, g i c) else none
  | _ => none
def ZCT (d : DV) (t : LT) (p : List (Nat × Nat)) : Loc0 := match ZCC d t p with
 | some (.sl _ _ _, .node l _) => { l with there := true }
 | _ => ⟨0, 0, 0, true, none, false⟩
omit H enc spare held in
theorem ZFc {bl : List Nat} {d : DV} {t : LT} {v : Value} (h : DvT w bl d t v) : ∀ (p : List (Nat × Nat)) (d' : DV) (t' : LT), ZCC d t p = some (d', t') -> ZAv d p = d' /\ ∃ z, DvT w bl d' t' z
 | [], d', t', hp => by simp [ZCC] at hp; obtain ⟨rfl, rfl⟩ := hp; exact ⟨rfl, v, h⟩
 | (i, c) :: p, d', t', hp => by
  simp only [ZCC] at hp
  split at hp
  ·rename_i wd n f l g hq
   split at hp
   ·rename_i hic
    simp only [Option.some.injEq, Prod.mk.injEq] at hp
    obtain ⟨rfl, rfl⟩ := hp
    obtain ⟨h1, z, h2⟩ := ZFc h p _ _ hq
    refine ⟨by simp only [ZAv, h1], ?_⟩
    obtain ⟨z', _, h3⟩ := (h2.2.2.2 i hic.1).2.2 c hic.2
    exact ⟨z', h3⟩
   ·cases hp
  ·cases hp
omit H enc spare held in
theorem ZI6 {bl : List Nat} {d : DV} {t : LT} {v : Value} (h : DvT w bl d t v) : ZLN (ZCT d t) d bl bl w := by
 intro p wd n f ht hd
 unfold ZCT at ht
 split at ht
 ·rename_i wd' n' f' l g hq
  obtain ⟨h1, z, h2⟩ := ZFc h p _ _ hq
  rw [h1] at hd; cases hd
  have hsub : ZCT d t p = { l with there := true } := by unfold ZCT; rw [hq]
  rw [hsub]
  refine ⟨h2.2.1, h2.2.2.1, fun i hi => ?_⟩
  obtain ⟨k1, k2, k3⟩ := h2.2.2.2 i hi
  refine ⟨k1, by cases p <;> exact k2, fun c hc => ?_⟩
  obtain ⟨z', k4, k5⟩ := k3 c hc
  have hnode : ZCC d t ((i, c) :: p) = some (f i c, g i c) := by simp only [ZCC, hq, hi, hc, and_self, if_true]
  have hval : z' = ZCb (ZCT d t) ((i, c) :: p) (f i c) /\ z'.oneCell' = true /\ ∀ wd2 n2 f2, f i c = .sl wd2 n2 f2 -> (ZCT d t ((i, c) :: p)).there = true := by
   cases hf : f i c with
   | v x =>
    rw [hf] at k5
    obtain ⟨rfl, k6⟩ := k5
    exact ⟨rfl, k6, fun _ _ _ e => by cases e⟩
   | sl wd2 n2 f2 =>
    rw [hf] at k5
    cases hg : g i c with
    | leaf => rw [hg] at k5; exact k5.elim
    | node l2 g2 =>
     rw [hg] at k5
     have hsub2 : ZCT d t ((i, c) :: p) = { l2 with there := true } := by unfold ZCT; rw [hnode, hf, hg]
     refine ⟨?_, ?_, fun _ _ _ _ => by rw [hsub2]⟩
     ·rw [k5.1]; simp only [ZCb, hsub2]; rfl
     ·rw [k5.1]; split <;> rfl
  rw [<- hval.1]
  exact ⟨k4, hval.2⟩
 ·cases ht
omit H enc spare held P w in
theorem ZNW (d : DV) (t : LT) : ZEc (ZCT d t) d := by
 have node : ∀ (p : List (Nat × Nat)) (d' : DV) (t' : LT), ZCC d t p = some (d', t') -> ZAv d p = d' := by
  intro p
  induction p with
  | nil => intro d' t' h; simp [ZCC] at h; exact h.1
  | cons x p ih =>
   intro d' t' h
   obtain ⟨i, c⟩ := x
   simp only [ZCC] at h
   split at h
   ·rename_i wd n f l g hq
    split at h
    ·simp only [Option.some.injEq, Prod.mk.injEq] at h
     simp only [ZAv, ih _ _ hq]; exact h.1
    ·cases h
   ·cases h
 intro p i c ht
 unfold ZCT at ht
 split at ht
 ·rename_i wd n f l g hq
  simp only [ZCC] at hq
  split at hq
  ·rename_i wd' n' f' l' g' hp
   split at hq
   ·rename_i hic
    exact ⟨by unfold ZCT; rw [hp], wd', n', f', node _ _ _ hp, hic⟩
   ·cases hq
  ·cases hq
 ·cases ht
theorem ZDQ {P : Program} {e : TypeId} {d : DataW H} {b : Nat} (hb : b ∈ d.weights P e) : ∀ {l : List (DataW H)}, d ∈ l -> b ∈ DataW.weightsAll P e l
 | x :: l, hd => by
  simp only [DataW.weightsAll, List.mem_append]
  rcases List.mem_cons.1 hd with rfl | hd
  ·exact .inl hb
  ·exact .inr (ZDQ hb hd)
theorem ZEG {P : Program} {t : TypeId} {d : DataW H} {b : Nat} (hb : b ∈ d.weights P t) : ∀ {ts : List TypeId} {ds : List (DataW H)} {i : Nat}, ts[i]? = some t -> ds[i]? = some d -> b ∈ DataW.weightsEach P ts ds
 | u :: ts, x :: ds, 0, h1, h2 => by
  simp only [List.getElem?_cons_zero, Option.some.injEq] at h1 h2
  subst h1 h2
  simp only [DataW.weightsEach, List.mem_append]
  exact .inl hb
 | u :: ts, x :: ds, i + 1, h1, h2 => by
  simp only [List.getElem?_cons_succ] at h1 h2
  simp only [DataW.weightsEach, List.mem_append]
  exact .inr (ZEG hb h1 h2)
 | [], _, _, h1, _ => by simp at h1
 | _ :: _, [], _, _, h2 => by simp at h2
theorem ZFd {P : Program} {t e : TypeId} (ht : P.underlying t = some (.slice e)) {elems rest : List (DataW H × List MemPlace)} (hwt : ∀ b ∈ (DataW.slice (elems.map (·.1)) (rest.map (·.1)) : DataW H).weights P t, b <= reachBytes) :
  elems.length * P.bytesOf e <= reachBytes /\ ∀ y ∈ elems, ∀ b ∈ y.1.weights P e, b <= reachBytes := by
 simp only [DataW.weights, ht] at hwt
 refine ⟨?_, fun y hy b hb => ?_⟩
 ·have := hwt _ List.mem_cons_self
  simp only [List.length_map] at this
  exact Nat.le_trans (Nat.mul_le_mul_right _ (Nat.le_add_right _ _)) this
 ·exact hwt b (List.mem_cons_of_mem _ (List.mem_append.2 (.inl (ZDQ hb (List.mem_map.2 ⟨y, hy, rfl⟩)))))
theorem ZEf {P : Program} {t : TypeId} {fs : Array Field} (ht : P.underlying t = some (.struct fs)) {xs : List (DataW H × List MemPlace)} (hwt : ∀ b ∈ (DataW.agg (xs.map (·.1)) : DataW H).weights P t, b <= reachBytes) {i : Nat} {f : Field} {y : DataW H × List MemPlace}
  (hi : fs[i]? = some f) (hy : xs[i]? = some y) : ∀ b ∈ y.1.weights P f.type, b <= reachBytes := by
 simp only [DataW.weights, ht] at hwt
 intro b hb
 exact hwt b (ZEG (i := i) hb (by simp [hi]) (by simp [hy]))
theorem ZFe {P : Program} {t e : TypeId} {n : Nat} (ht : P.underlying t = some (.array n e)) {xs : List (DataW H × List MemPlace)} (hwt : ∀ b ∈ (DataW.agg (xs.map (·.1)) : DataW H).weights P t, b <= reachBytes) {y : DataW H × List MemPlace}
  (hy : y ∈ xs) : ∀ b ∈ y.1.weights P e, b <= reachBytes := by
 simp only [DataW.weights, ht] at hwt
 exact fun b hb => hwt b (ZDQ hb (List.mem_map.2 ⟨y, hy, rfl⟩))
theorem ZEP (hsp : ∀ b, spare b = true) : ∀ (fuel m dep : Nat) (t : TypeId) (cs : List Value) (x : DataW H × List MemPlace) (cols : List Col), DataW.trod enc P w 0 spare held fuel t cs = some x -> (∀ b ∈ x.1.weights P t, b <= reachBytes) -> ZC1 P m t = some cols ->
  (∀ c ∈ cols, ZHw P dep c = true) -> ZNV P w (x.2.map MemPlace.block) dep cols cs
 | 0, m, dep, t, cs, x, cols, h, _, _, _ => by simp [DataW.trod] at h
 | fuel + 1, 0, dep, t, cs, x, cols, h, _, hc, _ => by simp [ZC1] at hc
 | fuel + 1, m + 1, dep, t, cs, x, cols, h, hwt, hc, hdeep => by
  simp only [ZC1] at hc
  split at hc
  ·rename_i ht
   simp at hc; subst hc
   obtain ⟨b, rfl, rfl⟩ := DataW.trod_bool ht h
   exact ⟨[.v (.bool b)], [.leaf], by cases dep <;> exact ⟨_, rfl⟩, ⟨rfl, rfl⟩, trivial⟩
  ·rename_i k ht
   simp at hc; subst hc
   obtain ⟨n, rfl, rfl, hw⟩ := DataW.trod_int ht h
   simp only [Lit.wf, Bool.and_eq_true, decide_eq_true_eq] at hw
   exact ⟨[.v (.int k n)], [.leaf], by cases dep <;> exact ⟨_, rfl, hw.1, hw.2⟩, ⟨rfl, rfl⟩, trivial⟩
  ·rename_i ht
   simp at hc; subst hc
   obtain ⟨s, rfl, rfl, hz⟩ := DataW.trod_string ht h
   exact ⟨[.v (.string s)], [.leaf], by cases dep <;> exact ⟨_, rfl, hz⟩, ⟨rfl, rfl⟩, trivial⟩
  ·rename_i e ht
   simp at hc; subst hc
   have hde := hdeep (.sl e) (by simp)
   cases dep with
   | zero => simp [ZHw] at hde
   | succ dep =>
    simp only [ZHw] at hde
    split at hde
    ·rename_i cols hcols
     simp only [Bool.and_eq_true, List.all_eq_true, decide_eq_true_eq] at hde
     obtain ⟨⟨hd1, hd2⟩, hd3⟩ := hde
     rcases DataW.trod_slice ht h with ⟨rfl, rfl⟩ | ⟨a, len, cap, elems, rest, n, hn, rfl, rfl, hb, hl, hm, hlen, hel, hrest, _⟩
     ·refine ⟨[.sl cols.length 0 fun _ _ => .v (.bool false)], [.node ⟨0, 0, 0, true, none, true⟩ fun _ _ => .leaf], ⟨0, _, cols, hcols, hd2, rfl, lim0 _ _, fun i hi => absurd hi (Nat.not_lt_zero _)⟩, ?_, trivial⟩
      exact ⟨rfl, fun _ => rfl, fun h => by simp [Loc0.loc] at h, fun i hi => absurd hi (Nat.not_lt_zero _)⟩
     ·obtain rfl : fuel = n := by omega
      obtain ⟨hwl, hwe⟩ := ZFd ht hwt
      let bl := (MemPlace.row a ((elems.length + rest.length) * P.cellsOf e) ++ (elems ++ rest).flatMap (·.2)).map MemPlace.block
      have row : ∀ i, ∃ p : List DV × List LT, i < len -> (∃ vs : List Value, ZGA P w bl dep cols vs p.1 p.2 /\ ∀ j, j < cols.length -> w.cell? (a.add (i * cols.length + j)) = vs[j]?) := fun i => by
       by_cases hi : i < len
       ·have he := hel i hi
        obtain ⟨y, hy⟩ : ∃ y, elems[i]? = some y := ⟨_, List.getElem?_eq_getElem (by omega)⟩
        rw [hy, Option.bind_eq_some_iff] at he
        obtain ⟨vs, hvs, hty⟩ := he
        obtain ⟨_, hvl, hcell⟩ := World.cells?_some hvs
        obtain ⟨ds, ts, hx⟩ := ZEP hsp fuel 6 dep e vs y cols hty (hwe y (List.mem_of_getElem? hy)) hcols hd3
        refine ⟨(ds, ts), fun _ => ⟨vs, hx.mono fun b hb => ?_, fun j hj => ?_⟩⟩
        ·obtain ⟨p, hp, rfl⟩ := List.mem_map.1 hb
         refine List.mem_map.2 ⟨p, List.mem_append.2 (.inr (List.mem_flatMap.2 ⟨y, List.mem_append.2 (.inl (List.mem_of_getElem? hy)), hp⟩)), rfl⟩
        ·rw [<- hcell j (by omega), ZPJ, hd1]
       ·exact ⟨([], []), fun h => absurd h hi⟩
      obtain ⟨f, hf⟩ := Classical.axiomOfChoice row
      let l : Loc0 := ⟨a.block, a.off, cap, false, a.spot, true⟩
      have hadr : ∀ n, adr l.loc n = a.add n := fun n => ZHx l.loc rfl rfl rfl n
      refine ⟨[.sl cols.length len fun i c => ((f i).1)[c]?.getD (.v (.bool false))], [.node l fun i c => ((f i).2)[c]?.getD .leaf], ⟨len, _, cols, hcols, hd2, rfl, ⟨Nat.le_trans hl hm, by rw [<- hlen]; exact hwl⟩, fun i hi c col hcol => ?_⟩, ⟨?_, fun h => (by cases h), fun _ => hl, fun i hi => ⟨rfl, ?_, fun c hc => ?_⟩⟩, trivial⟩
      ·obtain ⟨vs, hx, _⟩ := hf i hi
       obtain ⟨_, _, _, hg⟩ := hx.get
       obtain ⟨v, d, t, h1, h2, h3, h4, h5⟩ := hg c col hcol
       rw [h2]; exact h4
      ·rw [show adr l.loc 0 = a from by rw [hadr]; rfl]; rfl
      ·have hpos : 0 < (elems.length + rest.length) * P.cellsOf e := Nat.mul_pos (by omega) (by omega)
       simp only [List.map_append, List.mem_append]
       left
       simp only [MemPlace.row, List.map_map, List.mem_map, List.mem_range]
       exact ⟨0, hpos, rfl⟩
      ·obtain ⟨vs, hx, hcell⟩ := hf i hi
       obtain ⟨_, _, _, hg⟩ := hx.get
       obtain ⟨v, d, t, h1, h2, h3, h4, h5⟩ := hg c cols[c] (List.getElem?_eq_getElem hc)
       refine ⟨v, by rw [hadr, hcell c hc, h1], ?_⟩
       simp only [h2, h3, Option.getD_some]; exact h5
    ·cases hde
  ·rename_i fs ht
   split at hc
   ·rename_i cs' hcs
    split at hc
    ·rename_i hlen
     simp only [Option.some.injEq] at hc; subst hc
     obtain ⟨xs, n, hn, rfl, hcl, hxl, hx⟩ := DataW.trod_struct ht h
     obtain rfl : fuel = n := by omega
     have hmem : ∀ f ∈ fs.toList, ∀ c, ZC1 P m f.type = some c -> (∀ y ∈ c, y ∈ cs') /\ c.length = P.cellsOf f.type := ZDP fs.toList 0 cs' hcs
     have := ZFv (P := P) (Q := ZNV P w ((xs.flatMap (·.2)).map MemPlace.block) dep) ⟨[], [], trivial⟩ (fun _ _ _ _ ⟨d1, t1, a⟩ ⟨d2, t2, b⟩ => ⟨_, _, a.append b⟩) fs.toList 0 cs' cs hcs (by omega) (fun f hf c hcf => by
      obtain ⟨i, hi⟩ := List.getElem?_of_mem hf
      have hi' : fs[i]? = some f := by simpa using hi
      have hxi := hx i f hi'
      obtain ⟨y, hy⟩ : ∃ y, xs[i]? = some y := ⟨_, List.getElem?_eq_getElem (by have := (Array.getElem?_eq_some_iff.1 hi').1; omega)⟩
      rw [hy] at hxi
      have hm2 := hmem f hf c hcf
      refine (ZEP hsp fuel m dep f.type _ y c hxi (ZEf ht hwt hi' hy) hcf (fun e he => hdeep e (hm2.1 _ he))).mono fun b hb => ?_
      obtain ⟨p, hp, rfl⟩ := List.mem_map.1 hb
      exact List.mem_map.2 ⟨p, List.mem_flatMap.2 ⟨y, List.mem_of_getElem? hy, hp⟩, rfl⟩)
     simpa [hlen, <- hcl] using this
    ·cases hc
   ·cases hc
  ·rename_i k e ht
   split at hc
   ·rename_i c hcc
    split at hc
    ·rename_i hlen
     simp only [Option.some.injEq] at hc; subst hc
     obtain ⟨xs, n, hn, rfl, hcl, hxl, hx⟩ := DataW.trod_array ht h
     obtain rfl : fuel = n := by omega
     have := ZG7 (Q := ZNV P w ((xs.flatMap (·.2)).map MemPlace.block) dep) ⟨[], [], trivial⟩ (fun _ _ _ _ ⟨d1, t1, a⟩ ⟨d2, t2, b⟩ => ⟨_, _, a.append b⟩) (c := c) cs k 0 (by omega) (fun i hi => by
      have hxi := hx i hi
      obtain ⟨y, hy⟩ : ∃ y, xs[i]? = some y := ⟨_, List.getElem?_eq_getElem (by omega)⟩
      rw [hy, <- hlen.1] at hxi
      have hm2 : ∀ y ∈ c, y ∈ (List.replicate k c).flatten := fun y hy => List.mem_flatten.2 ⟨c, by simp; omega, hy⟩
      rw [Nat.zero_add]
      refine (ZEP hsp fuel m dep e _ y c hxi (ZFe ht hwt (List.mem_of_getElem? hy)) hcc (fun e he => hdeep e (hm2 _ he))).mono fun b hb => ?_
      obtain ⟨p, hp, rfl⟩ := List.mem_map.1 hb
      exact List.mem_map.2 ⟨p, List.mem_flatMap.2 ⟨y, List.mem_of_getElem? hy, hp⟩, rfl⟩)
     simpa [hlen.2, <- hcl] using this
    ·cases hc
   ·cases hc
  ·cases hc
theorem ZEQ (hsp : ∀ b, spare b = true) : ∀ (fuel m : Nat) (t : TypeId) (cs : List Value) (x : DataW H × List MemPlace) (cols : List Col), DataW.trod enc P w 0 spare held fuel t cs = some x -> (∀ b ∈ x.1.weights P t, b <= reachBytes) -> ZC1 P m t = some cols ->
  (∀ e, .sl e ∈ cols -> ZHw P 4 (.sl e) = true) -> Fits P w (x.2.map MemPlace.block) cols cs
 | 0, m, t, cs, x, cols, h, _, _, _ => by simp [DataW.trod] at h
 | fuel + 1, 0, t, cs, x, cols, h, _, hc, _ => by simp [ZC1] at hc
 | fuel + 1, m + 1, t, cs, x, cols, h, hwt, hc, hfl => by
  simp only [ZC1] at hc
  split at hc
  ·rename_i ht
   simp at hc; subst hc
   obtain ⟨b, rfl, rfl⟩ := DataW.trod_bool ht h
   exact ⟨[.v (.bool b)], ⟨_, rfl, _, rfl⟩, rfl, trivial⟩
  ·rename_i k ht
   simp at hc; subst hc
   obtain ⟨n, rfl, rfl, hw⟩ := DataW.trod_int ht h
   simp only [Lit.wf, Bool.and_eq_true, decide_eq_true_eq] at hw
   exact ⟨[.v (.int k n)], ⟨_, rfl, _, rfl, hw.1, hw.2⟩, rfl, trivial⟩
  ·rename_i ht
   simp at hc; subst hc
   obtain ⟨s, rfl, rfl, hz⟩ := DataW.trod_string ht h
   exact ⟨[.v (.string s)], ⟨_, rfl, _, rfl, hz⟩, rfl, trivial⟩
  ·rename_i e ht
   simp at hc; subst hc
   have hdeep := hfl e (by simp)
   cases hfe : ZNT P e with
   | none =>
    have hcs' : ∃ v, cs = [v] := by
     rcases DataW.trod_slice ht h with ⟨rfl, _⟩ | ⟨a, len, cap, _, _, _, _, rfl, _⟩ <;> exact ⟨_, rfl⟩
    obtain ⟨v, rfl⟩ := hcs'
    obtain ⟨ds, ts, hD⟩ := ZEP hsp (fuel + 1) 1 4 t [v] x [.sl e] h hwt (by simp [ZC1, ht]) (fun c hc => by simp at hc; subst hc; exact hdeep)
    obtain ⟨_, _, _, hg⟩ := hD.get
    obtain ⟨v', d, t', h1, h2, h3, h4, h5⟩ := hg 0 (.sl e) rfl
    simp at h1; subst h1
    have h4' := h4
    simp only [DVT] at h4
    obtain ⟨n, f, cols, hcols, hpos, rfl, hn, _⟩ := h4
    cases t' with
    | leaf => exact h5.elim
    | node l g =>
     let L : Loc := { blk := l.blk, off := l.off, cap := l.cap, nil := l.nil, spot := l.spot, sub := ZCT (.sl cols.length n f) (.node l g) }
     have hroot : L.sub [] = { l with there := true } := rfl
     refine ⟨[.c ⟨.dp false (.sl cols.length n f), fun k => .fs k [] cols.length 0 n 0, L, x.2.map MemPlace.block ++ x.2.map MemPlace.block⟩], .inr ⟨hfe, _, _, _, _, _, rfl, h4'⟩, ?_, trivial⟩
     refine ⟨fun ρ D k hk hD => ⟨?_, ?_⟩, rfl, fun ρ D => ?_, fun b hb => ?_⟩
     ·rw [h5.1]
      simp only [LV.at, hk, hroot]
      simp [Loc0.loc, adr]
     ·refine ⟨⟨hD, by rw [hk, hroot]⟩, fun hh => h5.2.1 (by rw [hk, hroot] at hh; exact hh), fun hh => ⟨?_, .inl (dof0 _ _), Nat.le_refl _⟩⟩
      rw [hk, hroot] at hh ⊢
      have := h5.2.2.1 hh
      show 0 + n <= l.cap
      have h9 : n <= l.cap := this
      omega
     ·exact ⟨rfl, _, _, _, _, _, rfl, rfl, fun hh => (by cases hh), ZI6 h5, ZNW _ _⟩
     ·simpa using hb
   | some cols =>
   have hcols := hfe
   have hcols' := hcols
   unfold ZNT at hcols
   split at hcols
   ·rename_i cols' hct
    split at hcols
    ·rename_i hp
     simp only [Option.some.injEq] at hcols; subst hcols
     obtain ⟨hp1, hp2, hp3⟩ := hp
     rcases DataW.trod_slice ht h with ⟨rfl, rfl⟩ | ⟨a, len, cap, elems, rest, n, hn, rfl, rfl, hb, hl, hm, hlen, hel, hrest, _⟩
     ·refine ⟨[.c ⟨.ro cols'.length 0 (fun _ => []), fun k => .s k cols'.length 0 0 0, { blk := 0, off := 0, cap := 0, nil := true }, []⟩], .inl ⟨cols', _, _, _, _, rfl, hcols', lim0 _ _, fun i hi => absurd hi (Nat.not_lt_zero _)⟩, ?_, trivial⟩
      refine ⟨fun ρ D k hk hD => ⟨by simp [LV.at, hk], hD, fun _ => rfl, fun hh => ?_⟩, rfl, fun ρ D => .inl ⟨rfl, rfl⟩, fun b hb => by simp at hb⟩
      rw [hk] at hh; cases hh
     ·obtain rfl : fuel = n := by omega
      obtain ⟨hwl, hwe⟩ := ZFd ht hwt
      -- each row
      have row : ∀ i, i < len -> ∃ vs : List Value, ZC2 cols' vs /\ ∀ j, j < cols'.length -> w.cell? (a.add (i * cols'.length + j)) = vs[j]? := fun i hi => by
       have he := hel i hi
       have : ∃ y, elems[i]? = some y := ⟨_, List.getElem?_eq_getElem (by omega)⟩
       obtain ⟨y, hy⟩ := this
       rw [hy, Option.bind_eq_some_iff] at he
       obtain ⟨vs, hvs, hty⟩ := he
       obtain ⟨_, hvl, hcell⟩ := World.cells?_some hvs
       obtain ⟨xs, hx⟩ := ZEQ hsp fuel 6 e vs y cols' hty (hwe y (List.mem_of_getElem? hy)) hct (fun e' he' => by
        have := List.all_eq_true.1 hp1 _ he'
        simp [Col.prim] at this)
       refine ⟨vs, hx.prims hp1, fun j hj => ?_⟩
       rw [<- hcell j (by omega), ZPJ, hp3]
      have hrow : ∀ i, ∃ vs : List Value, i < len -> ZC2 cols' vs /\ ∀ j, j < cols'.length -> w.cell? (a.add (i * cols'.length + j)) = vs[j]? := fun i => by
       by_cases hi : i < len
       ·obtain ⟨vs, h1⟩ := row i hi; exact ⟨vs, fun _ => h1⟩
       ·exact ⟨[], fun h => absurd h hi⟩
      obtain ⟨f, hf⟩ := Classical.axiomOfChoice hrow
      let l : Loc := { blk := a.block, off := a.off, cap := cap, nil := false, spot := a.spot }
      have hadr : ∀ n, adr l n = a.add n := fun n => ZHx l rfl rfl rfl n
      refine ⟨[.c ⟨.ro cols'.length len f, fun k => .s k cols'.length 0 len 0, l, if len = 0 then [] else [a.block]⟩], .inl ⟨cols', _, _, _, _, rfl, hcols', ⟨Nat.le_trans hl hm, by rw [<- hlen]; exact hwl⟩, fun i hi => (hf i hi).1⟩, ?_, trivial⟩
      refine ⟨fun ρ D k hk hD => ⟨?_, hD, fun hh => ?_, fun _ => ⟨?_, .inl (dof0 _ _), Nat.le_refl _⟩⟩, rfl, fun ρ D => ?_, fun b hb => ?_⟩
      ·simp only [LV.at, hk]
       simp only [l, Bool.false_eq_true, if_false]
       rw [show adr { blk := a.block, off := a.off, cap := cap, nil := false, spot := a.spot } ((0 - dof cap 0 0) * cols'.length) = a from by rw [dof0, Nat.sub_zero, Nat.zero_mul, hadr]; rfl]
       rfl
      ·rw [hk] at hh; cases hh
      ·rw [hk]; show 0 + len <= cap; omega
      ·by_cases h0 : len = 0
       ·exact .inl ⟨h0, by simp [h0]⟩
       ·refine .inr ⟨rfl, by simp [h0, l], fun i hi => ?_⟩
        obtain ⟨h1, h2⟩ := hf i hi
        obtain ⟨h3, h4⟩ := h1.one
        exact ⟨h3, h4, fun j hj => by rw [hadr]; exact h2 j hj⟩
      ·by_cases h0 : len = 0
       ·simp [h0] at hb
       ·simp [h0] at hb
        subst hb
        have hpos : 0 < (elems.length + rest.length) * P.cellsOf e := Nat.mul_pos (by omega) (by omega)
        simp only [List.map_append, List.mem_append]
        left
        simp only [MemPlace.row, List.map_map, List.mem_map, List.mem_range]
        exact ⟨0, hpos, rfl⟩
    ·cases hcols
   ·cases hcols
  ·rename_i fs ht
   split at hc
   ·rename_i cs' hcs
    split at hc
    ·rename_i hlen
     simp only [Option.some.injEq] at hc; subst hc
     obtain ⟨xs, n, hn, rfl, hcl, hxl, hx⟩ := DataW.trod_struct ht h
     obtain rfl : fuel = n := by omega
     have hmem : ∀ f ∈ fs.toList, ∀ c, ZC1 P m f.type = some c -> (∀ y ∈ c, y ∈ cs') /\ c.length = P.cellsOf f.type := ZDP fs.toList 0 cs' hcs
     have := ZLd (w := w) (bl := ((xs.flatMap (·.2)).map MemPlace.block)) fs.toList 0 cs' cs hcs (by omega) (fun f hf c hcf => by
      obtain ⟨i, hi⟩ := List.getElem?_of_mem hf
      have hi' : fs[i]? = some f := by simpa using hi
      have hxi := hx i f hi'
      have : ∃ y, xs[i]? = some y := ⟨_, List.getElem?_eq_getElem (by have := (Array.getElem?_eq_some_iff.1 hi').1; omega)⟩
      obtain ⟨y, hy⟩ := this
      rw [hy] at hxi
      have hm2 := hmem f hf c hcf
      refine (ZEQ hsp fuel m f.type _ y c hxi (ZEf ht hwt hi' hy) hcf (fun e he => hfl e (hm2.1 _ he))).mono fun b hb => ?_
      obtain ⟨p, hp, rfl⟩ := List.mem_map.1 hb
      exact List.mem_map.2 ⟨p, List.mem_flatMap.2 ⟨y, List.mem_of_getElem? hy, hp⟩, rfl⟩)
     simpa [hlen, <- hcl] using this
    ·cases hc
   ·cases hc
  ·rename_i k e ht
   split at hc
   ·rename_i c hcc
    split at hc
    ·rename_i hlen
     simp only [Option.some.injEq] at hc; subst hc
     obtain ⟨xs, n, hn, rfl, hcl, hxl, hx⟩ := DataW.trod_array ht h
     obtain rfl : fuel = n := by omega
     have := ZNU (P := P) (w := w) (bl := ((xs.flatMap (·.2)).map MemPlace.block)) (c := c) cs k 0 (by omega) (fun i hi => by
      have hxi := hx i hi
      have : ∃ y, xs[i]? = some y := ⟨_, List.getElem?_eq_getElem (by omega)⟩
      obtain ⟨y, hy⟩ := this
      rw [hy, <- hlen.1] at hxi
      have hm2 : ∀ y ∈ c, y ∈ (List.replicate k c).flatten := fun y hy => List.mem_flatten.2 ⟨c, by simp; omega, hy⟩
      rw [Nat.zero_add]
      refine (ZEQ hsp fuel m e _ y c hxi (ZFe ht hwt (List.mem_of_getElem? hy)) hcc (fun e he => hfl e (hm2 _ he))).mono fun b hb => ?_
      obtain ⟨p, hp, rfl⟩ := List.mem_map.1 hb
      exact List.mem_map.2 ⟨p, List.mem_flatMap.2 ⟨y, List.mem_of_getElem? hy, hp⟩, rfl⟩)
     simpa [hlen.2, <- hcl] using this
    ·cases hc
   ·cases hc
  ·cases hc
end
def ZCW (P : Program) (t : TypeId) : Bool := match P.underlying t with | some (.struct _) | some (.array _ _) => true | _ => false
abbrev OP := Bool × List OC
def OCTs (P : Program) : List Col -> List OC -> Prop
 | [], [] => True
 | c :: cs, x :: xs => OCT P c x /\ OCTs P cs xs
 | _, _ => False
def ZEz (P : Program) : List TypeId -> List OP -> Prop
 | [], [] => True
 | t :: ts, p :: ps => (p.1 = ZCW P t /\ ∃ cols, ZC1 P 6 t = some cols /\ OCTs P cols p.2) /\ ZEz P ts ps
 | _, _ => False
def ZGB : List OC -> List Chk
 | [] => []
 | .v _ :: xs => ZGB xs
 | .c ch :: xs => ch :: ZGB xs
def ZG8 : List OP -> List Chk
 | [] => []
 | p :: ps => ZGB p.2 ++ ZG8 ps
def lvsO : Nat -> List OC -> List LV
 | _, [] => []
 | k, .v x :: xs => .v x :: lvsO k xs
 | k, .c ch :: xs => ch.lv k :: lvsO (k + 1) xs
def cntO : List OC -> Nat
 | [] => 0
 | .v _ :: xs => cntO xs
 | .c _ :: xs => cntO xs + 1
def avP (agg : Bool) (l : List LV) : AV := match agg, l with
 | false, [x] => .l x
 | _, l => .a l
def avsP : Nat -> List OP -> List AV
 | _, [] => []
 | k, p :: ps => avP p.1 (lvsO k p.2) :: avsP (k + cntO p.2) ps
def ZLe : Nat -> List Chk -> Heap
 | _, [] => []
 | k, c :: cs => (k, some c.e) :: ZLe (k + 1) cs
def ZRx (w : World) (c : Chk) : Prop := (∀ ρ D, ZBl c.e ρ D c.l c.F w) /\ (∀ b ∈ c.F, b < w.heap.size) /\ c.e.own = false
def locs (cs : List Chk) : Env := fun k => match cs[k]? with | some c => c.l | none => { blk := 0, off := 0, cap := 0, nil := true }
def foots (cs : List Chk) : Nat -> List Nat := fun k => match cs[k]? with | some c => c.F | none => []
theorem ZCm : ∀ (cs : List Chk) (m k : Nat) (e : Ent), hget (ZLe m cs) k = some e -> ∃ j c, k = m + j /\ cs[j]? = some c /\ e = c.e
 | [], m, k, e, h => by simp [ZLe, hget] at h
 | c :: cs, m, k, e, h => by
  rw [ZLe, ZAJ] at h
  split at h
  ·rename_i hk
   simp at h; subst h
   exact ⟨0, c, by omega, by simp, rfl⟩
  ·obtain ⟨j, c', h1, h2, h3⟩ := ZCm cs (m + 1) k e h
   exact ⟨j + 1, c', by omega, by simpa using h2, h3⟩
theorem ZQJ {w : World} {cs : List Chk} (h : ∀ c ∈ cs, ZRx w c) : HM (ZLe 0 cs) (lt cs.length) (locs cs) (foots cs) w where
 at_ := fun k e hk => by
  obtain ⟨j, c, h1, h2, rfl⟩ := ZCm cs 0 k e hk
  obtain rfl : k = j := by omega
  simp only [locs, foots, h2]
  exact (h c (List.mem_of_getElem? h2)).1 _ _
 lt := fun k e hk => by
  obtain ⟨j, c, h1, h2, rfl⟩ := ZCm cs 0 k e hk
  have := (List.getElem?_eq_some_iff.1 h2).1
  show k < cs.length
  omega
 dj := fun k k' e e' hk hk' hne ho => by
  obtain ⟨j, c, h1, h2, rfl⟩ := ZCm cs 0 k e hk
  rw [(h c (List.mem_of_getElem? h2)).2.2] at ho
  cases ho
 sz := fun k e hk b hb => by
  obtain ⟨j, c, h1, h2, rfl⟩ := ZCm cs 0 k e hk
  obtain rfl : k = j := by omega
  simp only [foots, h2] at hb
  exact (h c (List.mem_of_getElem? h2)).2.1 b hb
theorem ZPK {P : Program} {w : World} {bl : List Nat} {cs vs xs} (h : ZC5 P w bl cs vs xs) : OCTs P cs xs := by
 induction cs generalizing vs xs with
 | nil => obtain ⟨rfl, rfl⟩ := h.nil_inv; trivial
 | cons c cs ih =>
  obtain ⟨v, vs, x, xs, rfl, rfl, k1, k2, k3⟩ := h.cons_inv
  exact ⟨k1, ih k3⟩
theorem ZLf : ∀ xs : List OC, cntO xs = (ZGB xs).length
 | [] => rfl
 | .v _ :: xs => ZLf xs
 | .c _ :: xs => by simp [cntO, ZGB, ZLf xs]
theorem ZSU {P : Program} {w : World} {bl : List Nat} {ρ : Env} {D : Nat -> Prop} {cs vs xs} (k : Nat) (h : ZC5 P w bl cs vs xs) (hρ : ∀ j c, (ZGB xs)[j]? = some c -> ρ (k + j) = c.l /\ D (k + j)) :
  (lvsO k xs).map (LV.at ρ) = vs /\ ∀ x ∈ lvsO k xs, x.ok ρ D := by
 induction cs generalizing vs xs k with
 | nil => obtain ⟨rfl, rfl⟩ := h.nil_inv; exact ⟨rfl, fun x hx => by cases hx⟩
 | cons c cs ih =>
  obtain ⟨v, vs, x, xs, rfl, rfl, h1, h2, h3⟩ := h.cons_inv
  cases x with
  | v x =>
   obtain ⟨a, b⟩ := ih k h3 hρ
   refine ⟨by simp only [lvsO, List.map_cons, a]; cases h2; rfl, fun y hy => ?_⟩
   rcases List.mem_cons.1 hy with rfl | hy
   ·trivial
   ·exact b y hy
  | c ch =>
   obtain ⟨a, b⟩ := ih (k + 1) h3 (fun j c hj => by
    have := hρ (j + 1) c (by simpa [ZGB] using hj)
    rwa [show k + 1 + j = k + (j + 1) by omega])
   obtain ⟨e1, e2⟩ := hρ 0 ch (by simp [ZGB])
   simp only [Nat.add_zero] at e1 e2
   obtain ⟨q1, q2⟩ := h2.1 ρ D k e1 e2
   refine ⟨by simp only [lvsO, List.map_cons, a, q1], fun y hy => ?_⟩
   rcases List.mem_cons.1 hy with rfl | hy
   ·exact q2
   ·exact b y hy
theorem ZPL {P : Program} {w : World} {bl : List Nat} (hbl : ∀ b ∈ bl, b < w.heap.size) {cs vs xs} (h : ZC5 P w bl cs vs xs) : ∀ c ∈ ZGB xs, ZRx w c := by
 induction cs generalizing vs xs with
 | nil => obtain ⟨rfl, rfl⟩ := h.nil_inv; intro c hc; cases hc
 | cons c0 cs ih =>
  obtain ⟨v, vs, x, xs, rfl, rfl, h1, h2, h3⟩ := h.cons_inv
  intro c hc
  cases x with
  | v x => exact ih h3 c hc
  | c ch =>
   rcases List.mem_cons.1 hc with rfl | hc
   ·exact ⟨h2.2.2.1, fun b hb => hbl b (h2.2.2.2 b hb), h2.2.1⟩
   ·exact ih h3 c hc
theorem ZE0 : ∀ (xs : List OC) (k : Nat), (lvsO k xs).length = xs.length
 | [], _ => rfl
 | .v _ :: xs, k => by simp [lvsO, ZE0 xs]
 | .c _ :: xs, k => by simp [lvsO, ZE0 xs]
def ZHy (P : Program) (t : TypeId) : Bool :=
 match ZC1 P 6 t with
 | some cols => cols.all (ZHw P 4) && (ZCW P t || decide (cols.length = 1)) && P.readableRec t && decide (t < P.types.size) && (match P.underlying t with | some .invalid | none => false | _ => true)
 | none => false
section
variable {H : Type} {enc : TypeId × Value -> H} {P : Program} {W : World}
theorem ZNX {t : TypeId} (ht : ZHy P t = true) {base : Nat} {v : Value} (hv : Value.okWide P W .any base t v) {d : DataW H} {ps : List MemPlace} (hd : DataW.Trod enc P W 0 (fun _ => true) true t v d ps) (hwt : ∀ b ∈ d.weights P t, b <= reachBytes) :
  ∃ (xs : List OC) (cols : List Col), ZC1 P 6 t = some cols /\ ZC5 P W (ps.map MemPlace.block) cols v.cells.toList xs /\ (ZCW P t = true -> ∃ c, v = .agg c) /\ (ZCW P t = false -> v.cells = #[v] /\ cols.length = 1) := by
 unfold ZHy at ht
 split at ht
 ·rename_i cols hcols
  simp only [Bool.and_eq_true, List.all_eq_true, decide_eq_true_eq, Bool.or_eq_true] at ht
  obtain ⟨⟨⟨⟨h1, h2⟩, h3⟩, h4⟩, h5⟩ := ht
  obtain ⟨fuel, hf⟩ := hd
  obtain ⟨xs, hx⟩ := ZEQ (fun _ => rfl) fuel 6 t v.cells.toList (d, ps) cols hf hwt hcols (fun e he => h1 _ he)
  refine ⟨xs, cols, hcols, hx, fun ha => ?_, fun ha => ?_⟩
  ·unfold ZCW at ha
   unfold Value.okWide at hv
   split at hv
   ·obtain ⟨cs, rfl, _⟩ := hv; exact ⟨_, rfl⟩
   ·obtain ⟨cs, rfl, _⟩ := hv; exact ⟨_, rfl⟩
   ·split at ha <;> simp_all
  ·refine ⟨?_, by rcases h2 with h2 | h2 <;> simp_all⟩
   unfold ZCW at ha
   unfold Value.okWide at hv
   split at hv
   ·simp_all
   ·simp_all
   ·have hna : ∀ cs, v ≠ .agg cs := fun cs e => by
     subst e
     unfold Cell.okWide at hv
     split at hv <;> first | (simp_all; done) | skip
     unfold Cell.ok at hv
     split at hv <;> simp_all
    cases v <;> first | rfl | (exact absurd rfl (hna _))
 ·cases ht
end
end Go.Sx
