/- The symbolic walk, part U: what is handed in, as the walk sees it: flat rows, read. -/
import Derived.Test.YtfkhaicghoiijaaSxT
import Derived.OpenShut
import Derived.WideShapes
import Derived.ChangeOld
set_option linter.unusedSimpArgs false
set_option linter.unusedVariables false
namespace Go.Sx
open Go

/-- What stands in one cell of what is handed in. -/
inductive Col where
  | b
  | i (k : IntKind)
  | s
  | sl (e : TypeId)
  deriving DecidableEq
def Col.prim : Col → Bool
  | .sl _ => false
  | _ => true
def structCols (cols : TypeId → Option (List Col)) (size : TypeId → Nat) : Nat → List Field → Option (List Col)
  | _, [] => some []
  | o, f :: fs => match cols f.type, structCols cols size (o + size f.type) fs with
    | some c, some cs => if f.offset = o ∧ c.length = size f.type then some (c ++ cs) else none
    | _, _ => none
def colsT (P : Program) : Nat → TypeId → Option (List Col)
  | 0, _ => none
  | m + 1, t => match P.underlying t with
    | some .bool => some [.b]
    | some (.int k) => some [.i k]
    | some .string => some [.s]
    | some (.slice e) => some [.sl e]
    | some (.struct fs) => match structCols (colsT P m) P.cellsOf 0 fs.toList with
      | some cs => if cs.length = P.cellsOf t then some cs else none
      | none => none
    | some (.array n e) => match colsT P m e with
      | some cs => if cs.length = P.cellsOf e ∧ n * cs.length = P.cellsOf t then some (List.replicate n cs).flatten else none
      | none => none
    | _ => none
/-- The columns of what a slice holds, each of which is no slice. -/
def flatT (P : Program) (e : TypeId) : Option (List Col) := match colsT P 6 e with
  | some cs => if cs.all Col.prim = true ∧ 0 < cs.length ∧ cs.length = P.cellsOf e then some cs else none
  | none => none
/-- A row of what was handed in: where it lies, and what it holds. -/
structure Chk where
  wd : Nat
  n : Nat
  f : Nat → List Value
  l : Loc
  F : List Nat
def PrimV : Col → Value → Prop
  | .b, v => ∃ b, v = .bool b
  | .i k, v => ∃ n, v = .int k n ∧ k.min ≤ n ∧ n ≤ k.max
  | .s, v => ∃ s, v = .string s ∧ s.size ≤ maxLen
  | .sl _, _ => False
def PrimsV : List Col → List Value → Prop
  | [], [] => True
  | c :: cs, v :: vs => PrimV c v ∧ PrimsV cs vs
  | _, _ => False
inductive OC where
  | v (x : Value)
  | c (k : Chk)
/-- What is known of an opened cell. -/
def OCT (P : Program) : Col → OC → Prop
  | .sl e, x => ∃ cols ch, x = .c ch ∧ flatT P e = some cols ∧ ch.wd = cols.length ∧ ch.n ≤ maxLen ∧ ∀ i, i < ch.n → PrimsV cols (ch.f i)
  | c, x => ∃ v, x = .v v ∧ PrimV c v
/-- .. and what it is in the memory. -/
def OCAt (w : World) (bl : List Nat) : OC → Value → Prop
  | .v x, y => y = x
  | .c ch, y => y = (if ch.l.nil then .slice none 0 0 else .slice (some (adr ch.l 0)) ch.n ch.l.cap) ∧ (ch.l.nil = true → ch.n = 0) ∧ (ch.l.nil = false → ch.n ≤ ch.l.cap) ∧
      (∀ ρ D, EntAt (.ro ch.wd ch.n ch.f) ρ D ch.l ch.F w) ∧ ∀ b ∈ ch.F, b ∈ bl
def OpenC (P : Program) (w : World) (bl : List Nat) : List Col → List Value → List OC → Prop
  | [], [], [] => True
  | c :: cs, v :: vs, x :: xs => OCT P c x ∧ OCAt w bl x v ∧ OpenC P w bl cs vs xs
  | _, _, _ => False
/-- Each cell can be opened. -/
def Fits (P : Program) (w : World) (bl : List Nat) (cs : List Col) (vs : List Value) : Prop := ∃ xs, OpenC P w bl cs vs xs

theorem Fits.nil {P : Program} {w : World} {bl : List Nat} : Fits P w bl [] [] := ⟨[], trivial⟩
theorem OpenC.append {P : Program} {w : World} {bl : List Nat} : ∀ {c1 v1 x1 c2 v2 x2}, OpenC P w bl c1 v1 x1 → OpenC P w bl c2 v2 x2 → OpenC P w bl (c1 ++ c2) (v1 ++ v2) (x1 ++ x2)
  | [], [], [], _, _, _, _, h2 => h2
  | c :: cs, v :: vs, x :: xs, _, _, _, h1, h2 => ⟨h1.1, h1.2.1, h1.2.2.append h2⟩
theorem Fits.append {P : Program} {w : World} {bl : List Nat} {c1 v1 c2 v2} (h1 : Fits P w bl c1 v1) (h2 : Fits P w bl c2 v2) : Fits P w bl (c1 ++ c2) (v1 ++ v2) := by
  obtain ⟨x1, h1⟩ := h1
  obtain ⟨x2, h2⟩ := h2
  exact ⟨x1 ++ x2, h1.append h2⟩
theorem OpenC.len {P : Program} {w : World} {bl : List Nat} : ∀ {cs vs xs}, OpenC P w bl cs vs xs → vs.length = cs.length ∧ xs.length = cs.length
  | [], [], [], _ => ⟨rfl, rfl⟩
  | c :: cs, v :: vs, x :: xs, h => by have := h.2.2.len; simp [this]
theorem Fits.len {P : Program} {w : World} {bl : List Nat} {cs vs} (h : Fits P w bl cs vs) : vs.length = cs.length := by obtain ⟨xs, h⟩ := h; exact h.len.1
theorem OCAt.mono {w : World} {bl bl' : List Nat} (hb : ∀ b ∈ bl, b ∈ bl') {x : OC} {v : Value} (h : OCAt w bl x v) : OCAt w bl' x v := by
  cases x with
  | v x => exact h
  | c ch => exact ⟨h.1, h.2.1, h.2.2.1, h.2.2.2.1, fun b hx => hb b (h.2.2.2.2 b hx)⟩
theorem OpenC.mono {P : Program} {w : World} {bl bl' : List Nat} (hb : ∀ b ∈ bl, b ∈ bl') : ∀ {cs vs xs}, OpenC P w bl cs vs xs → OpenC P w bl' cs vs xs
  | [], [], [], h => h
  | c :: cs, v :: vs, x :: xs, h => ⟨h.1, h.2.1.mono hb, h.2.2.mono hb⟩
theorem Fits.mono {P : Program} {w : World} {bl bl' : List Nat} (hb : ∀ b ∈ bl, b ∈ bl') {cs vs} (h : Fits P w bl cs vs) : Fits P w bl' cs vs := by obtain ⟨xs, h⟩ := h; exact ⟨xs, h.mono hb⟩
theorem OpenC.prims {P : Program} {w : World} {bl : List Nat} : ∀ {cs vs xs}, OpenC P w bl cs vs xs → cs.all Col.prim = true → PrimsV cs vs
  | [], [], [], _, _ => trivial
  | c :: cs, v :: vs, x :: xs, h, hp => by
    simp only [List.all_cons, Bool.and_eq_true] at hp
    refine ⟨?_, h.2.2.prims hp.2⟩
    obtain ⟨h1, h2, _⟩ := h
    cases c with
    | sl e => simp [Col.prim] at hp
    | b => obtain ⟨y, rfl, h1⟩ := h1; cases h2; exact h1
    | i k => obtain ⟨y, rfl, h1⟩ := h1; cases h2; exact h1
    | s => obtain ⟨y, rfl, h1⟩ := h1; cases h2; exact h1
theorem PrimV.one {c : Col} {v : Value} (h : PrimV c v) : v.oneCell' = true := by
  cases c with
  | b => obtain ⟨b, rfl⟩ := h; rfl
  | i k => obtain ⟨n, rfl, _⟩ := h; rfl
  | s => obtain ⟨s, rfl, _⟩ := h; rfl
  | sl e => exact h.elim
theorem PrimsV.one : ∀ {cs vs}, PrimsV cs vs → vs.length = cs.length ∧ ∀ x ∈ vs, x.oneCell' = true
  | [], [], _ => ⟨rfl, fun x hx => by cases hx⟩
  | c :: cs, v :: vs, h => by
    obtain ⟨h1, h2⟩ := h.2.one
    refine ⟨by simp [h1], fun x hx => ?_⟩
    rcases List.mem_cons.1 hx with rfl | hx
    · exact h.1.one
    · exact h2 x hx

theorem add_add (a : Addr) (m n : Nat) : (a.add m).add n = a.add (m + n) := by
  unfold Addr.add
  by_cases h1 : m = 0
  · subst h1; simp
  · by_cases h2 : n = 0
    · subst h2; simp
    · have : ¬ m + n = 0 := by omega
      simp [h1, h2, this, Nat.add_assoc]
theorem adr_of_add {a : Addr} (h : a.spot = none) (l : Loc) (h1 : l.blk = a.block) (h2 : l.off = a.off) (n : Nat) : adr l n = a.add n := by
  obtain ⟨b, o, s⟩ := a
  simp only at h h1 h2
  subst h
  unfold Addr.add adr
  split
  · rename_i h0; subst h0; simp [h1, h2]
  · simp [h1, h2]

section
variable {H : Type} {enc : TypeId × Value → H} {P : Program} {w : World} {spare : Nat → Bool} {held : Bool}

omit H enc spare held w in
theorem structCols_mem {cols : TypeId → Option (List Col)} : ∀ (fs : List Field) (o : Nat) (cs : List Col), structCols cols P.cellsOf o fs = some cs → ∀ f ∈ fs, ∀ c, cols f.type = some c → (∀ y ∈ c, y ∈ cs) ∧ c.length = P.cellsOf f.type
  | [], o, cs, h, f, hf, _, _ => by cases hf
  | g :: fs, o, cs, h, f, hf, c, hcf => by
    simp only [structCols] at h
    split at h
    · rename_i c1 cs' hc hcs
      split at h
      · rename_i hx
        simp only [Option.some.injEq] at h; subst h
        rcases List.mem_cons.1 hf with rfl | hf
        · rw [hc] at hcf; cases hcf
          exact ⟨fun y hy => List.mem_append.2 (.inl hy), hx.2⟩
        · obtain ⟨h1, h2⟩ := structCols_mem fs _ _ hcs f hf c hcf
          exact ⟨fun y hy => List.mem_append.2 (.inr (h1 y hy)), h2⟩
      · cases h
    · cases h
theorem fits_struct {bl : List Nat} {cols : TypeId → Option (List Col)} : ∀ (fs : List Field) (o : Nat) (cs : List Col) (vs : List Value), structCols cols P.cellsOf o fs = some cs → o + cs.length ≤ vs.length →
    (∀ f ∈ fs, ∀ c, cols f.type = some c → Fits P w bl c ((vs.drop f.offset).take (P.cellsOf f.type))) → Fits P w bl cs ((vs.drop o).take cs.length)
  | [], o, cs, vs, h, hl, hf => by simp [structCols] at h; subst h; simpa using Fits.nil
  | f :: fs, o, cs, vs, h, hl, hf => by
    simp only [structCols] at h
    split at h
    · rename_i c cs' hc hcs
      split at h
      · rename_i hx
        obtain ⟨h1, h2⟩ := hx
        simp only [Option.some.injEq] at h; subst h
        simp only [List.length_append] at hl ⊢
        have a := hf f (by simp) c hc
        have b := fits_struct fs _ _ vs hcs (by omega) (fun g hg => hf g (by simp [hg]))
        rw [h1] at a
        have := a.append b
        rw [show c.length + cs'.length = P.cellsOf f.type + cs'.length by omega, List.take_add]
        rwa [List.drop_drop]
      · cases h
    · cases h
theorem fits_array {bl : List Nat} {c : List Col} (vs : List Value) : ∀ (n o : Nat), o + n * c.length ≤ vs.length → (∀ i, i < n → Fits P w bl c ((vs.drop (o + i * c.length)).take c.length)) → Fits P w bl (List.replicate n c).flatten ((vs.drop o).take (n * c.length))
  | 0, o, _, _ => by simpa using Fits.nil
  | n + 1, o, hl, hf => by
    have a := hf 0 (by omega)
    have e : (n + 1) * c.length = c.length + n * c.length := by rw [Nat.add_mul]; omega
    rw [e] at hl ⊢
    have b : Fits P w bl (List.replicate n c).flatten ((vs.drop (o + c.length)).take (n * c.length)) := fits_array vs n (o + c.length) (by omega) (fun i hi => by
      have := hf (i + 1) (by omega)
      rwa [show o + (i + 1) * c.length = o + c.length + i * c.length by rw [Nat.add_mul]; omega] at this)
    simp only [Nat.zero_mul, Nat.add_zero] at a
    have := a.append b
    simp only [List.replicate_succ, List.flatten_cons]
    rw [List.take_add]
    rwa [List.drop_drop]

/-- **What is read as data can be opened.** -/
theorem open_cells (hsp : ∀ b, spare b = true) : ∀ (fuel m : Nat) (t : TypeId) (cs : List Value) (x : DataW H × List MemPlace) (cols : List Col), DataW.trod enc P w 0 spare held fuel t cs = some x → colsT P m t = some cols →
    (∀ e, .sl e ∈ cols → (flatT P e).isSome = true) → (cols.all Col.prim = true ∨ ∀ (a : Addr) n c, Value.slice (some a) n c ∈ cs → a.spot = none) → Fits P w (x.2.map MemPlace.block) cols cs
  | 0, m, t, cs, x, cols, h, _, _, _ => by simp [DataW.trod] at h
  | fuel + 1, 0, t, cs, x, cols, h, hc, _, _ => by simp [colsT] at hc
  | fuel + 1, m + 1, t, cs, x, cols, h, hc, hfl, hs => by
    simp only [colsT] at hc
    split at hc
    · rename_i ht
      simp at hc; subst hc
      obtain ⟨b, rfl, rfl⟩ := DataW.trod_bool ht h
      exact ⟨[.v (.bool b)], ⟨_, rfl, _, rfl⟩, rfl, trivial⟩
    · rename_i k ht
      simp at hc; subst hc
      obtain ⟨n, rfl, rfl, hw⟩ := DataW.trod_int ht h
      simp only [Lit.wf, Bool.and_eq_true, decide_eq_true_eq] at hw
      exact ⟨[.v (.int k n)], ⟨_, rfl, _, rfl, hw.1, hw.2⟩, rfl, trivial⟩
    · rename_i ht
      simp at hc; subst hc
      obtain ⟨s, rfl, rfl, hz⟩ := DataW.trod_string ht h
      exact ⟨[.v (.string s)], ⟨_, rfl, _, rfl, hz⟩, rfl, trivial⟩
    · rename_i e ht
      simp at hc; subst hc
      have hs : ∀ (a : Addr) n c, Value.slice (some a) n c ∈ cs → a.spot = none := by
        rcases hs with hs | hs
        · simp [Col.prim] at hs
        · exact hs
      have hfe := hfl e (by simp)
      obtain ⟨cols, hcols⟩ := Option.isSome_iff_exists.1 hfe
      have hcols' := hcols
      unfold flatT at hcols
      split at hcols
      · rename_i cols' hct
        split at hcols
        · rename_i hp
          simp only [Option.some.injEq] at hcols; subst hcols
          obtain ⟨hp1, hp2, hp3⟩ := hp
          rcases DataW.trod_slice ht h with ⟨rfl, rfl⟩ | ⟨a, len, cap, elems, rest, n, hn, rfl, rfl, hb, hl, hm, hlen, hel, hrest, _⟩
          · refine ⟨[.c ⟨cols'.length, 0, fun _ => [], ⟨0, 0, 0, true⟩, []⟩], ⟨cols', _, rfl, hcols', rfl, by unfold maxLen; simp, fun i hi => absurd hi (Nat.not_lt_zero _)⟩, ?_, trivial⟩
            exact ⟨rfl, fun _ => rfl, fun h => by simp at h, fun ρ D => .inl ⟨rfl, rfl⟩, fun b hb => by simp at hb⟩
          · obtain rfl : fuel = n := by omega
            have hsa := hs a len cap (by simp)
            -- each row
            have row : ∀ i, i < len → ∃ vs : List Value, PrimsV cols' vs ∧ ∀ j, j < cols'.length → w.cell? (a.add (i * cols'.length + j)) = vs[j]? := fun i hi => by
              have he := hel i hi
              have : ∃ y, elems[i]? = some y := ⟨_, List.getElem?_eq_getElem (by omega)⟩
              obtain ⟨y, hy⟩ := this
              rw [hy, Option.bind_eq_some_iff] at he
              obtain ⟨vs, hvs, hty⟩ := he
              obtain ⟨_, hvl, hcell⟩ := World.cells?_some hvs
              obtain ⟨xs, hx⟩ := open_cells hsp fuel 6 e vs y cols' hty hct (fun e' he' => by
                have := List.all_eq_true.1 hp1 _ he'
                simp [Col.prim] at this) (.inl hp1)
              refine ⟨vs, hx.prims hp1, fun j hj => ?_⟩
              rw [← hcell j (by omega), add_add, hp3]
            have hrow : ∀ i, ∃ vs : List Value, i < len → PrimsV cols' vs ∧ ∀ j, j < cols'.length → w.cell? (a.add (i * cols'.length + j)) = vs[j]? := fun i => by
              by_cases hi : i < len
              · obtain ⟨vs, h1⟩ := row i hi; exact ⟨vs, fun _ => h1⟩
              · exact ⟨[], fun h => absurd h hi⟩
            obtain ⟨f, hf⟩ := Classical.axiomOfChoice hrow
            let l : Loc := ⟨a.block, a.off, cap, false⟩
            have hadr : ∀ n, adr l n = a.add n := fun n => adr_of_add hsa l rfl rfl n
            refine ⟨[.c ⟨cols'.length, len, f, l, if len = 0 then [] else [a.block]⟩], ⟨cols', _, rfl, hcols', rfl, Nat.le_trans hl hm, fun i hi => (hf i hi).1⟩, ?_, trivial⟩
            refine ⟨?_, fun h => by simp [l] at h, fun _ => hl, fun ρ D => ?_, fun b hb => ?_⟩
            · simp only [l, Bool.false_eq_true, if_false]
              rw [show adr ⟨a.block, a.off, cap, false⟩ 0 = a from by rw [hadr]; rfl]
            · by_cases h0 : len = 0
              · exact .inl ⟨h0, by simp [h0]⟩
              · refine .inr ⟨rfl, by simp [h0, l], fun i hi => ?_⟩
                obtain ⟨h1, h2⟩ := hf i hi
                obtain ⟨h3, h4⟩ := h1.one
                exact ⟨h3, h4, fun j hj => by rw [hadr]; exact h2 j hj⟩
            · by_cases h0 : len = 0
              · simp [h0] at hb
              · simp [h0] at hb
                subst hb
                have hpos : 0 < (elems.length + rest.length) * P.cellsOf e := Nat.mul_pos (by omega) (by omega)
                simp only [List.map_append, List.mem_append]
                left
                simp only [MemPlace.row, List.map_map, List.mem_map, List.mem_range]
                exact ⟨0, hpos, rfl⟩
        · cases hcols
      · cases hcols
    · rename_i fs ht
      split at hc
      · rename_i cs' hcs
        split at hc
        · rename_i hlen
          simp only [Option.some.injEq] at hc; subst hc
          obtain ⟨xs, n, hn, rfl, hcl, hxl, hx⟩ := DataW.trod_struct ht h
          obtain rfl : fuel = n := by omega
          have hmem : ∀ f ∈ fs.toList, ∀ c, colsT P m f.type = some c → (∀ y ∈ c, y ∈ cs') ∧ c.length = P.cellsOf f.type := structCols_mem fs.toList 0 cs' hcs
          have := fits_struct (w := w) (bl := ((xs.flatMap (·.2)).map MemPlace.block)) fs.toList 0 cs' cs hcs (by omega) (fun f hf c hcf => by
            obtain ⟨i, hi⟩ := List.getElem?_of_mem hf
            have hi' : fs[i]? = some f := by simpa using hi
            have hxi := hx i f hi'
            have : ∃ y, xs[i]? = some y := ⟨_, List.getElem?_eq_getElem (by have := (Array.getElem?_eq_some_iff.1 hi').1; omega)⟩
            obtain ⟨y, hy⟩ := this
            rw [hy] at hxi
            have hm2 := hmem f hf c hcf
            refine (open_cells hsp fuel m f.type _ y c hxi hcf (fun e he => hfl e (hm2.1 _ he)) ?_).mono fun b hb => ?_
            · rcases hs with hs | hs
              · exact .inl (List.all_eq_true.2 fun y hy => List.all_eq_true.1 hs y (hm2.1 y hy))
              · exact .inr fun a n c hm => hs a n c (List.mem_of_mem_drop (List.mem_of_mem_take hm))
            · obtain ⟨p, hp, rfl⟩ := List.mem_map.1 hb
              exact List.mem_map.2 ⟨p, List.mem_flatMap.2 ⟨y, List.mem_of_getElem? hy, hp⟩, rfl⟩)
          simpa [hlen, ← hcl] using this
        · cases hc
      · cases hc
    · rename_i k e ht
      split at hc
      · rename_i c hcc
        split at hc
        · rename_i hlen
          simp only [Option.some.injEq] at hc; subst hc
          obtain ⟨xs, n, hn, rfl, hcl, hxl, hx⟩ := DataW.trod_array ht h
          obtain rfl : fuel = n := by omega
          have := fits_array (P := P) (w := w) (bl := ((xs.flatMap (·.2)).map MemPlace.block)) (c := c) cs k 0 (by omega) (fun i hi => by
            have hxi := hx i hi
            have : ∃ y, xs[i]? = some y := ⟨_, List.getElem?_eq_getElem (by omega)⟩
            obtain ⟨y, hy⟩ := this
            rw [hy, ← hlen.1] at hxi
            have hm2 : ∀ y ∈ c, y ∈ (List.replicate k c).flatten := fun y hy => List.mem_flatten.2 ⟨c, by simp; omega, hy⟩
            rw [Nat.zero_add]
            refine (open_cells hsp fuel m e _ y c hxi hcc (fun e he => hfl e (hm2 _ he)) ?_).mono fun b hb => ?_
            · rcases hs with hs | hs
              · exact .inl (List.all_eq_true.2 fun y hy => List.all_eq_true.1 hs y (hm2 y hy))
              · exact .inr fun a n c hm => hs a n c (List.mem_of_mem_drop (List.mem_of_mem_take hm))
            · obtain ⟨p, hp, rfl⟩ := List.mem_map.1 hb
              exact List.mem_map.2 ⟨p, List.mem_flatMap.2 ⟨y, List.mem_of_getElem? hy, hp⟩, rfl⟩)
          simpa [hlen.2, ← hcl] using this
        · cases hc
      · cases hc
    · cases hc
end

/-! ### All that is handed in, under names -/
def isAggT (P : Program) (t : TypeId) : Bool := match P.underlying t with | some (.struct _) | some (.array _ _) => true | _ => false
/-- One parameter, opened: is it of several cells, and which. -/
abbrev OP := Bool × List OC
def OCTs (P : Program) : List Col → List OC → Prop
  | [], [] => True
  | c :: cs, x :: xs => OCT P c x ∧ OCTs P cs xs
  | _, _ => False
def typedPs (P : Program) : List TypeId → List OP → Prop
  | [], [] => True
  | t :: ts, p :: ps => (p.1 = isAggT P t ∧ ∃ cols, colsT P 6 t = some cols ∧ OCTs P cols p.2) ∧ typedPs P ts ps
  | _, _ => False
def chksO : List OC → List Chk
  | [] => []
  | .v _ :: xs => chksO xs
  | .c ch :: xs => ch :: chksO xs
def chksP : List OP → List Chk
  | [] => []
  | p :: ps => chksO p.2 ++ chksP ps
def lvsO : Nat → List OC → List LV
  | _, [] => []
  | k, .v x :: xs => .v x :: lvsO k xs
  | k, .c ch :: xs => .s k ch.wd 0 ch.n 0 :: lvsO (k + 1) xs
def cntO : List OC → Nat
  | [] => 0
  | .v _ :: xs => cntO xs
  | .c _ :: xs => cntO xs + 1
def avP (agg : Bool) (l : List LV) : AV := match agg, l with
  | false, [x] => .l x
  | _, l => .a l
def avsP : Nat → List OP → List AV
  | _, [] => []
  | k, p :: ps => avP p.1 (lvsO k p.2) :: avsP (k + cntO p.2) ps
def heapC : Nat → List Chk → Heap
  | _, [] => []
  | k, c :: cs => (k, some (.ro c.wd c.n c.f)) :: heapC (k + 1) cs
/-- What is known of the chunks: they are there. -/
def ChkAt (w : World) (c : Chk) : Prop := (∀ ρ D, EntAt (.ro c.wd c.n c.f) ρ D c.l c.F w) ∧ ∀ b ∈ c.F, b < w.heap.size
def locs (cs : List Chk) : Env := fun k => match cs[k]? with | some c => c.l | none => ⟨0, 0, 0, true⟩
def foots (cs : List Chk) : Nat → List Nat := fun k => match cs[k]? with | some c => c.F | none => []
theorem hget_heapC : ∀ (cs : List Chk) (m k : Nat) (e : Ent), hget (heapC m cs) k = some e → ∃ j c, k = m + j ∧ cs[j]? = some c ∧ e = .ro c.wd c.n c.f
  | [], m, k, e, h => by simp [heapC, hget] at h
  | c :: cs, m, k, e, h => by
    rw [heapC, hget_cons] at h
    split at h
    · rename_i hk
      simp at h; subst h
      exact ⟨0, c, by omega, by simp, rfl⟩
    · obtain ⟨j, c', h1, h2, h3⟩ := hget_heapC cs (m + 1) k e h
      exact ⟨j + 1, c', by omega, by simpa using h2, h3⟩
theorem hm_heapC {w : World} {cs : List Chk} (h : ∀ c ∈ cs, ChkAt w c) : HM (heapC 0 cs) (lt cs.length) (locs cs) (foots cs) w where
  at_ := fun k e hk => by
    obtain ⟨j, c, h1, h2, rfl⟩ := hget_heapC cs 0 k e hk
    obtain rfl : k = j := by omega
    simp only [locs, foots, h2]
    exact (h c (List.mem_of_getElem? h2)).1 _ _
  lt := fun k e hk => by
    obtain ⟨j, c, h1, h2, rfl⟩ := hget_heapC cs 0 k e hk
    have := (List.getElem?_eq_some_iff.1 h2).1
    show k < cs.length
    omega
  dj := fun k k' e e' hk hk' hne ho => by
    obtain ⟨j, c, h1, h2, rfl⟩ := hget_heapC cs 0 k e hk
    cases ho
  sz := fun k e hk b hb => by
    obtain ⟨j, c, h1, h2, rfl⟩ := hget_heapC cs 0 k e hk
    obtain rfl : k = j := by omega
    simp only [foots, h2] at hb
    exact (h c (List.mem_of_getElem? h2)).2 b hb

theorem openC_oct {P : Program} {w : World} {bl : List Nat} : ∀ {cs vs xs}, OpenC P w bl cs vs xs → OCTs P cs xs
  | [], [], [], _ => trivial
  | c :: cs, v :: vs, x :: xs, h => ⟨h.1, openC_oct h.2.2⟩
theorem cntO_eq : ∀ xs : List OC, cntO xs = (chksO xs).length
  | [] => rfl
  | .v _ :: xs => cntO_eq xs
  | .c _ :: xs => by simp [cntO, chksO, cntO_eq xs]
/-- The opened cells are the values, under their names. -/
theorem lvs_at {P : Program} {w : World} {bl : List Nat} {ρ : Env} {D : Nat → Prop} : ∀ {cs vs xs} (k : Nat), OpenC P w bl cs vs xs → (∀ j c, (chksO xs)[j]? = some c → ρ (k + j) = c.l ∧ D (k + j)) →
    (lvsO k xs).map (LV.at ρ) = vs ∧ ∀ x ∈ lvsO k xs, x.ok ρ D
  | [], [], [], k, _, _ => ⟨rfl, fun x hx => by cases hx⟩
  | c :: cs, v :: vs, .v x :: xs, k, h, hρ => by
    obtain ⟨h1, h2, h3⟩ := h
    obtain ⟨a, b⟩ := lvs_at k h3 hρ
    refine ⟨by simp only [lvsO, List.map_cons, a]; cases h2; rfl, fun y hy => ?_⟩
    rcases List.mem_cons.1 hy with rfl | hy
    · trivial
    · exact b y hy
  | c :: cs, v :: vs, .c ch :: xs, k, h, hρ => by
    obtain ⟨h1, h2, h3⟩ := h
    obtain ⟨a, b⟩ := lvs_at (ρ := ρ) (D := D) (k + 1) h3 (fun j c hj => by
      have := hρ (j + 1) c (by simpa [chksO] using hj)
      rwa [show k + 1 + j = k + (j + 1) by omega])
    obtain ⟨e1, e2⟩ := hρ 0 ch (by simp [chksO])
    simp only [Nat.add_zero] at e1 e2
    refine ⟨?_, fun y hy => ?_⟩
    · simp only [lvsO, List.map_cons, a]
      rw [h2.1]
      simp only [LV.at, e1, Nat.zero_sub, Nat.zero_mul, Nat.sub_zero]
    · rcases List.mem_cons.1 hy with rfl | hy
      · exact ⟨e2, by rw [e1]; exact h2.2.1, by rw [e1]; exact fun hh => ⟨by have := h2.2.2.1 hh; omega, .inl rfl, Nat.le_refl _⟩⟩
      · exact b y hy
theorem openC_chk {P : Program} {w : World} {bl : List Nat} (hbl : ∀ b ∈ bl, b < w.heap.size) : ∀ {cs vs xs}, OpenC P w bl cs vs xs → ∀ c ∈ chksO xs, ChkAt w c
  | [], [], [], _, c, hc => by cases hc
  | _ :: cs, v :: vs, .v x :: xs, h, c, hc => openC_chk hbl h.2.2 c hc
  | _ :: cs, v :: vs, .c ch :: xs, h, c, hc => by
    rcases List.mem_cons.1 hc with rfl | hc
    · exact ⟨h.2.1.2.2.2.1, fun b hb => hbl b (h.2.1.2.2.2.2 b hb)⟩
    · exact openC_chk hbl h.2.2 c hc
theorem lvsO_length : ∀ (xs : List OC) (k : Nat), (lvsO k xs).length = xs.length
  | [], _ => rfl
  | .v _ :: xs, k => by simp [lvsO, lvsO_length xs]
  | .c _ :: xs, k => by simp [lvsO, lvsO_length xs]

/-- Which types are taken. -/
def takenT (P : Program) (t : TypeId) : Bool :=
  match colsT P 6 t with
  | some cols => cols.all (fun c => match c with | .sl e => (flatT P e).isSome | _ => true) && (isAggT P t || decide (cols.length = 1)) && P.readableRec t && decide (t < P.types.size) && (match P.underlying t with | some .invalid | none => false | _ => true)
  | none => false

section
variable {H : Type} {enc : TypeId × Value → H} {P : Program} {W : World}
theorem open_param {t : TypeId} (ht : takenT P t = true) {base : Nat} {v : Value} (hv : Value.okWide P W .any base t v) {d : DataW H} {ps : List MemPlace} (hd : DataW.Trod enc P W 0 (fun _ => true) true t v d ps) :
    ∃ (xs : List OC) (cols : List Col), colsT P 6 t = some cols ∧ OpenC P W (ps.map MemPlace.block) cols v.cells.toList xs ∧ (isAggT P t = true → ∃ c, v = .agg c) ∧ (isAggT P t = false → v.cells = #[v] ∧ cols.length = 1) := by
  unfold takenT at ht
  split at ht
  · rename_i cols hcols
    simp only [Bool.and_eq_true, List.all_eq_true, decide_eq_true_eq, Bool.or_eq_true] at ht
    obtain ⟨⟨⟨⟨h1, h2⟩, h3⟩, h4⟩, h5⟩ := ht
    obtain ⟨fuel, hf⟩ := hd
    have hspot : ∀ (a : Addr) n c, Value.slice (some a) n c ∈ v.cells.toList → a.spot = none := by
      intro a n c hm
      have cellok : ∀ u, Cell.okWide P W .any base u (.slice (some a) n c) → a.spot = none := fun u hu => by
        unfold Cell.okWide at hu
        split at hu <;> first | (exfalso; simp_all; done) | skip
        unfold Cell.ok at hu
        split at hu <;> first | (exfalso; simp_all; done) | skip
        all_goals (first | exact hu.2.2.2.1 | (rename_i heq; cases heq; exact hu.2.2.2.1) | (simp_all [World.has]))
      unfold Value.okWide at hv
      split at hv
      · obtain ⟨cs, rfl, _, ts, _, _, hr⟩ := hv
        obtain ⟨i, hi⟩ := List.getElem?_of_mem hm
        obtain ⟨u, _, hu⟩ := hr i _ (by simpa [Value.cells] using hi)
        exact cellok u hu
      · obtain ⟨cs, rfl, _, ts, _, _, hr⟩ := hv
        obtain ⟨i, hi⟩ := List.getElem?_of_mem hm
        obtain ⟨u, _, hu⟩ := hr i _ (by simpa [Value.cells] using hi)
        exact cellok u hu
      · have : v = .slice (some a) n c ∨ ∃ cs, v = .agg cs := by
          cases v <;> simp_all [Value.cells]
        rcases this with rfl | ⟨cs, rfl⟩
        · exact cellok _ hv
        · exfalso
          unfold Cell.okWide at hv
          split at hv <;> first | (simp_all; done) | skip
          unfold Cell.ok at hv
          split at hv <;> simp_all
    obtain ⟨xs, hx⟩ := open_cells (fun _ => rfl) fuel 6 t v.cells.toList (d, ps) cols hf hcols (fun e he => by simpa using h1 _ he) (.inr hspot)
    refine ⟨xs, cols, hcols, hx, fun ha => ?_, fun ha => ?_⟩
    · unfold isAggT at ha
      unfold Value.okWide at hv
      split at hv
      · obtain ⟨cs, rfl, _⟩ := hv; exact ⟨_, rfl⟩
      · obtain ⟨cs, rfl, _⟩ := hv; exact ⟨_, rfl⟩
      · split at ha <;> simp_all
    · refine ⟨?_, by rcases h2 with h2 | h2 <;> simp_all⟩
      unfold isAggT at ha
      unfold Value.okWide at hv
      split at hv
      · simp_all
      · simp_all
      · have hna : ∀ cs, v ≠ .agg cs := fun cs e => by
          subst e
          unfold Cell.okWide at hv
          split at hv <;> first | (simp_all; done) | skip
          unfold Cell.ok at hv
          split at hv <;> simp_all
        cases v <;> first | rfl | (exact absurd rfl (hna _))
  · cases ht
end
end Go.Sx
