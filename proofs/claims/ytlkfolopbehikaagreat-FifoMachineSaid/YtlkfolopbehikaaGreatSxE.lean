/- part -/
import Derived.Test.YtlkfolopbehikaaGreatSxD
set_option linter.unusedSimpArgs false
set_option linter.unusedVariables false
namespace Go.Sx
open Go
def Runs (G : Ctx) (o : Oper) (a : Act) (h : Heap) (D : Nat -> Prop) (n : Nat) (ρ : Env) (w : World) (K : SV -> Heap -> Nat -> Prop) : Prop :=
 ∃ x u n' ρ' φ' w', K x u n' /\ n <= n' /\ n' <= n + 1 /\ (∀ k, D k -> ρ' k = ρ k) /\ GM G (u ++ h) (grow D n n') ρ' φ' w' /\ x.ok ρ' (grow D n n') /\
  ((execOp a.eval o).run G.P w = .ok (.value (x.at ρ')) w' \/ ((execOp a.eval o).run G.P w = .ok .skip w' /\ x = ZBe))
theorem ZBf (D : Nat -> Prop) (n : Nat) : ∀ k, D k -> grow D n n k := fun _ h => .inl h
section
variable {G : Ctx} {o : Oper} {a : Act} {r : Regs} {h : Heap} {D : Nat -> Prop} {n : Nat} {ρ : Env} {φ : Nat -> List Nat} {w : World} {K : SV -> Heap -> Nat -> Prop}
theorem ZAL (g : GM G h D ρ φ w) {x : SV} (hx : x.ok ρ D) (hK : K x [] n) (hr : (execOp a.eval o).run G.P w = .ok (.value (x.at ρ)) w) : Runs G o a h D n ρ w K :=
 ⟨x, [], n, ρ, φ, w, hK, Nat.le_refl _, Nat.le_succ _, fun _ _ => rfl, g.mono (fun _ _ => rfl) (ZBf D n) (fun _ _ _ _ _ => rfl) g.frm (Nat.le_refl _), SV.ok_mono (fun _ _ => rfl) (ZBf D n) hx, .inl hr⟩
theorem ZDC (w : World) (o : Obj) (b : Nat) (hb : b < w.heap.size) : (w.alloc o).heap[b]? = w.heap[b]? := heap_alloc_old w o b hb
theorem ZBg (w : World) (o : Obj) : (w.alloc o).heap[w.heap.size]? = some o := heap_alloc_new w o
theorem Frm.alloc {w0 : World} {F0 : Nat -> Prop} {w : World} (hf : Frm w0 F0 w) (o : Obj) : Frm w0 F0 (w.alloc o) :=
 ⟨Nat.le_trans hf.size (by simp), fun b hb hn => by rw [ZDC w o b (Nat.lt_of_lt_of_le hb hf.size)]; exact hf.blk b hb hn, hf.os, hf.tape, hf.output⟩
theorem ZFR (g : GM G h D ρ φ w) (hn : ¬ D n) (e : Ent) (l : Loc) (ob : Obj) (x : SV) (hl : l.blk = w.heap.size) (he : e.own = true)
  (hE : ∀ ρ', (∀ k, D k -> ρ' k = ρ k) -> ZBl e ρ' (grow D n (n + 1)) l [l.blk] (w.alloc ob))
  (hx : ∀ ρ', ρ' n = l -> x.ok ρ' (grow D n (n + 1)))
  (hK : K x [(n, some e)] (n + 1)) (hr : ∀ ρ', ρ' n = l -> (execOp a.eval o).run G.P w = .ok (.value (x.at ρ')) (w.alloc ob)) : Runs G o a h D n ρ w K := by
 let ρ' : Env := fun k => if k = n then l else ρ k
 have hρ : ∀ k, D k -> ρ' k = ρ k := fun k hk => by
  have : k ≠ n := fun e => hn (e ▸ hk)
  simp [ρ', this]
 have hρn : ρ' n = l := by simp [ρ']
 refine ⟨x, [(n, some e)], n + 1, ρ', fun k => if k = n then [l.blk] else φ k, w.alloc ob, hK, Nat.le_succ _, Nat.le_refl _, hρ, ?_, hx ρ' hρn, .inl (hr ρ' hρn)⟩
 refine g.put n e [l.blk] hρ (fun k hk => .inl hk) (.inr ⟨Nat.le_refl _, Nat.lt_succ_self _⟩) (fun k e' hk hne b hb => ZDC w ob b (g.hm.sz k e' hk b hb)) (by rw [hρn]; exact hE ρ' hρ)
  (fun b hb => by simp at hb; subst hb; rw [hl]; simp) (fun k e' hk hne b hb hb' => ?_) (fun _ b hb => by simp at hb; subst hb; rw [hl]; exact .inr g.frm.size) (g.frm.alloc ob) (by simp) (fun hx => absurd (he.symm.trans hx) (by decide))
 simp at hb'
 have := g.hm.sz k e' hk b hb
 rw [hb', hl] at this
 exact Nat.lt_irrefl _ this
theorem ZFp (P : Program) (w : World) (t : TypeId) (v : Value) : (newVar t v).run P w = .ok ⟨w.heap.size, 0, none⟩ (w.alloc (.cells v.cells t)) := by
 rfl
variable (g : GM G h D ρ φ w) (hr : RM r D ρ a)
include g hr
theorem ZL5 {X : Operand} {x : O} (ho : o.op = .move X \/ o.op = .assign X)
  (he : match oget r x with
   | some v => K (.o v) [] n
   | none => match x with
    | .r t => match rget r t with
     | some (.t xs) => K (.t xs) [] n
     | _ => False
    | .c _ => False) (hc : cO X = some x) : Runs G o a h D n ρ w K := by
 cases hv : oget r x with
 | none =>
  rw [hv] at he
  cases x with
  | c y => exact he.elim
  | r t =>
   simp only at he
   split at he
   ·rename_i xs hg
    have h1 := hr t _ hg
    have hX : X = .tmp t := by
     cases X with
     | tmp t' => simp only [cO, Option.some.injEq, O.r.injEq] at hc; rw [hc]
     | const u => cases u <;> simp [cO] at hc
     | _ => simp [cO] at hc
    refine ZAL g (x := .t xs) h1.2 he ?_
    have h3 : a.tmps.getD t undef = SV.at ρ (SV.t xs) := by simp [h1.1]
    rcases ho with ho | ho <;> simp only [execOp, ho, Sem.run, hX, Act.eval, h3] <;> rfl
   ·exact he.elim
 | some v =>
  rw [hv] at he
  obtain ⟨h1, h2⟩ := ZAF hr hc hv
  refine ZAL g (x := .o v) h2 he ?_
  rcases ho with ho | ho <;> simp only [execOp, ho, Sem.run, h1, SV.at] <;> rfl
omit g hr in
theorem ZIr {kf kt : Prop} {t : Bool} (h : @Bool.rec (fun _ => Prop) kf kt t) : (t = true -> kt) /\ (t = false -> kf) := by
 cases t
 ·exact ⟨fun e => (by cases e), fun _ => h⟩
 ·exact ⟨fun _ => h, fun e => (by cases e)⟩
omit g hr in
theorem ZCB (l : Loc) (p j : Nat) : (adr l p).add j = adr l (p + j) := by
 unfold Addr.add adr
 split
 ·rename_i h0; subst h0; rfl
 ·rename_i h0
  have : ¬ p + j = 0 := by omega
  simp [Nat.add_assoc, this, h0]
omit hr in
theorem ZJ4 {k : Nat} {q : List (Nat × Nat)} {oo : Bool} {d : DV} (hk : hget h k = some (.dp oo d)) (hok : D k /\ ((ρ k).sub q).there = true) {wd m : Nat} {f : Nat -> Nat -> DV} (hd : ZAv d q = .sl wd m f) {row col : Nat} (hrow : row < m) (hcol : col < wd) :
  ∃ v : LV, (v = match f row col with | .v x => .v x | .sl wd2 n2 _ => .fs k ((row, col) :: q) wd2 0 n2 0) /\ v.ok ρ D /\ w.cell? (adr ((ρ k).sub q).loc (row * wd + col)) = some (v.at ρ) := by
 obtain ⟨_, wd0, n0, f0, Fr, Fc, rfl, _, _, hn, _⟩ := g.hm.at_ k _ hk
 obtain ⟨_, _, h3⟩ := hn q wd m f hok.2 hd
 obtain ⟨_, _, h4⟩ := h3 row hrow
 obtain ⟨h5, h6, h7⟩ := h4 col hcol
 refine ⟨_, rfl, ?_, ?_⟩
 ·cases hf : f row col with
  | v x => trivial
  | sl wd2 n2 f2 =>
   have ht := h7 _ _ _ hf
   have hd2 : ZAv (.sl wd0 n0 f0) ((row, col) :: q) = .sl wd2 n2 f2 := by simp only [ZAv, hd, hf]
   obtain ⟨k1, k2, _⟩ := hn _ _ _ _ ht hd2
   exact ⟨⟨hok.1, ht⟩, k1, fun hh => ⟨by have := k2 hh; omega, .inl (dof0 _ _), Nat.le_refl _⟩⟩
 ·rw [h5]
  cases hf : f row col with
  | v x => rfl
  | sl wd2 n2 f2 => simp [ZCb, LV.at]
omit hr in
theorem ZNE {k : Nat} {q : List (Nat × Nat)} {wd row col : Nat} {K' : LV -> Prop} (hok : D k /\ ((ρ k).sub q).there = true) (he : ldDp h k q wd row col K') : ∃ v, K' v /\ v.ok ρ D /\ w.cell? (adr ((ρ k).sub q).loc (row * wd + col)) = some (v.at ρ) := by
 unfold ldDp at he
 split at he
 ·rename_i oo d hk
  split at he
  ·rename_i wd' m f hd
   split at he
   ·rename_i hb1 hb2
    obtain rfl := Nat.eq_of_beq_eq_true hb1
    have hcol := Nat.le_of_ble_eq_true hb2
    obtain ⟨hrow, he⟩ := he
    obtain ⟨v, hv, h1, h2⟩ := ZJ4 g hk hok hd hrow hcol
    refine ⟨v, ?_, h1, h2⟩
    split at he
    ·rename_i x hx
     rw [ZAj] at he
     rw [hx] at hv; rw [hv]; exact he
    ·rename_i wd2 n2 f2 hx
     rw [hx] at hv; rw [hv]; exact he
   ·exact he.elim
  ·exact he.elim
 ·exact he.elim
def dpLV (k : Nat) (q : List (Nat × Nat)) (row : Nat) (f : Nat -> Nat -> DV) (j : Nat) : LV := match f row j with | .v x => .v x | .sl wd2 n2 _ => .fs k ((row, j) :: q) wd2 0 n2 0
omit g hr in
theorem ZDD {k : Nat} {q : List (Nat × Nat)} {row : Nat} {f : Nat -> Nat -> DV} : ∀ (m col : Nat) {K' : List LV -> Prop}, ZEq k q row f col m K' -> K' ((List.range m).map fun j => dpLV k q row f (col + j))
 | 0, col, K', he => he
 | m + 1, col, K', he => by
  simp only [ZEq] at he
  rw [List.range_succ_eq_map]
  simp only [List.map_cons, List.map_map, Nat.add_zero]
  have e : ((fun j => dpLV k q row f (col + j)) ∘ Nat.succ) = fun j => dpLV k q row f (col + 1 + j) := by
   funext j; simp only [Function.comp]; congr 1; omega
  rw [e]
  split at he
  ·rename_i x hx
   rw [ZAj] at he
   have := ZDD m (col + 1) he
   simpa only [dpLV, hx] using this
  ·rename_i wd2 n2 f2 hx
   have := ZDD m (col + 1) he
   simpa only [dpLV, hx] using this
omit hr in
theorem ZLO {k : Nat} {q : List (Nat × Nat)} {wd row col m : Nat} {K' : List LV -> Prop} (hok : D k /\ ((ρ k).sub q).there = true) (he : ZP1 h k q wd row col m K') :
  ∃ vs, K' vs /\ (∀ v ∈ vs, v.ok ρ D) /\ vs.length = m /\ ∀ j u, (vs.map (LV.at ρ))[j]? = some u -> w.cell? ((adr ((ρ k).sub q).loc (row * wd + col)).add j) = some u := by
 unfold ZP1 at he
 split at he
 ·rename_i oo d hk
  split at he
  ·rename_i wd' m' f hd
   split at he
   ·rename_i hb1 hb2
    obtain rfl := Nat.eq_of_beq_eq_true hb1
    have hcol := Nat.le_of_ble_eq_true hb2
    obtain ⟨hrow, he⟩ := he
    have each : ∀ j, j < m -> ((dpLV k q row f (col + j)).ok ρ D /\ w.cell? ((adr ((ρ k).sub q).loc (row * wd' + col)).add j) = some ((dpLV k q row f (col + j)).at ρ)) := fun j hj => by
     obtain ⟨v, hv, h1, h2⟩ := ZJ4 g hk hok hd hrow (show col + j < wd' by omega)
     have hv : v = dpLV k q row f (col + j) := hv
     rw [<- hv, ZCB, Nat.add_assoc]
     exact ⟨h1, h2⟩
    refine ⟨_, ZDD m col he, fun v hv => ?_, by simp, fun j u hu => ?_⟩
    ·obtain ⟨j, hj, rfl⟩ := List.mem_map.1 hv
     exact (each j (List.mem_range.1 hj)).1
    ·simp only [List.map_map, List.getElem?_map, Option.map_eq_some_iff] at hu
     obtain ⟨j', hj', rfl⟩ := hu
     have hjm : j < m /\ j' = j := by
      by_cases hjm : j < m
      ·rw [List.getElem?_range hjm] at hj'; cases hj'; exact ⟨hjm, rfl⟩
      ·rw [List.getElem?_eq_none (by simp; omega)] at hj'; cases hj'
     obtain ⟨hjm, rfl⟩ := hjm
     exact (each j' hjm).2
   ·exact he.elim
  ·exact he.elim
 ·exact he.elim
omit hr in
theorem ZHk {k wd row col : Nat} {K' : LV -> Prop} (he : ldAt h k wd row col K') : ∃ v, K' v /\ v.ok ρ D /\ w.cell? (adr (ρ k) (row * wd + col)) = some (v.at ρ) := by
 unfold ldAt at he
 split at he
 ·rename_i cs hk
  obtain ⟨h1, h2, h3, ⟨t, h4⟩, h5⟩ := g.hm.at_ k _ hk
  rw [ZAc] at he
  split at he
  ·rename_i x hx
   refine ⟨x, he, h5 x (List.mem_of_getElem? hx), ?_⟩
   simp [World.cell?, adr, h4, h2, hx]
  ·exact he.elim
 ·rename_i wd' m f hk
  split at he
  ·rename_i hwd
   obtain rfl := Nat.eq_of_beq_eq_true hwd
   obtain ⟨hrow, he⟩ := he
   rcases g.hm.at_ k _ hk with ⟨_, h0, _⟩ | ⟨h1, h2, h3, h4, h5, cs, t, h6, h7, h8⟩
   ·omega
   ·obtain ⟨h9, h10, h11⟩ := h8 row hrow
    rw [ZAc] at he
    split at he
    ·rename_i x hx
     rw [ZAj] at he
     have hc : col < wd' := by
      have := (List.getElem?_eq_some_iff.1 hx).1
      omega
     refine ⟨.v x, he, trivial, ?_⟩
     simp only [World.cell?, adr, h6, h2, Nat.zero_add, h11 col hc, hx, ite_self, Option.isSome_none, Bool.false_eq_true, if_false, LV.at]
    ·exact he.elim
  ·exact he.elim
 ·rename_i wd' m f hk
  split at he
  ·rename_i hwd
   obtain rfl := Nat.eq_of_beq_eq_true hwd
   obtain ⟨hrow, he⟩ := he
   rcases g.hm.at_ k _ hk with ⟨h0, _⟩ | ⟨h1, h3, h8⟩
   ·omega
   ·obtain ⟨h9, h10, h11⟩ := h8 row hrow
    rw [ZAc] at he
    split at he
    ·rename_i x hx
     rw [ZAj] at he
     have hc : col < wd' := by
      have := (List.getElem?_eq_some_iff.1 hx).1
      omega
     exact ⟨.v x, he, trivial, by rw [h11 col hc, hx]; rfl⟩
    ·exact he.elim
  ·exact he.elim
 ·rename_i m f i x hk
  split at he
  ·rename_i hwd hcol
   obtain rfl := Nat.eq_of_beq_eq_true hwd
   obtain rfl := Nat.eq_of_beq_eq_true hcol
   obtain ⟨⟨rfl, hrow⟩, he⟩ := he
   obtain ⟨⟨h1, h2, h3, h4, h5⟩, ⟨h6, h7⟩, cs, t, h8, h9, h10⟩ := g.hm.at_ k _ hk
   have := (h10 row hrow).1
   rw [if_pos rfl] at this
   refine ⟨x, he, h7, ?_⟩
   simp [World.cell?, adr, h8, h2, this]
  ·exact he.elim
 ·exact he.elim
omit hr in
theorem ZF2 {k wd row col m : Nat} {K' : List LV -> Prop} (he : ZEY h k wd row col m K') :
  ∃ vs, K' vs /\ (∀ v ∈ vs, v.ok ρ D) /\ vs.length = m /\ ∀ j u, (vs.map (LV.at ρ))[j]? = some u -> w.cell? ((adr (ρ k) (row * wd + col)).add j) = some u := by
 unfold ZEY at he
 simp only [ZBz] at he
 split at he
 ·rename_i cs hk
  obtain ⟨h1, h2, h3, ⟨t, h4⟩, h5⟩ := g.hm.at_ k _ hk
  split at he
  ·rename_i xs hx
   have hg := ZLM hx
   obtain ⟨hx1, hx2⟩ := ZJ3 hx
   refine ⟨xs, he, fun v hv => h5 v ?_, hx2, fun j u hu => ?_⟩
   ·rw [hx1] at hv; exact List.mem_of_mem_drop (List.mem_of_mem_take hv)
   ·have hj : j < m := by
     have := (List.getElem?_eq_some_iff.1 hu).1
     simp at this; omega
    rw [ZCB]
    simp only [List.getElem?_map] at hu
    simp [World.cell?, adr, h4, h2, hg j hj]
    simpa using hu
  ·exact he.elim
 ·rename_i wd' m' f hk
  split at he
  ·rename_i hwd
   obtain rfl := Nat.eq_of_beq_eq_true hwd
   obtain ⟨hrow, he⟩ := he
   rcases g.hm.at_ k _ hk with ⟨_, h0, _⟩ | ⟨h1, h2, h3, h4, h5, cs, t, h6, h7, h8⟩
   ·omega
   ·obtain ⟨h9, h10, h11⟩ := h8 row hrow
    split at he
    ·rename_i xs hx
     rw [ZB2] at he
     have hg := ZLM hx
     obtain ⟨hx1, hx2⟩ := ZJ3 hx
     refine ⟨xs.map LV.v, he, fun v hv => by simp at hv; obtain ⟨z, _, rfl⟩ := hv; trivial, by simpa using hx2, fun j u hu => ?_⟩
     have hj : j < m := by
      have := (List.getElem?_eq_some_iff.1 hu).1
      simp at this; omega
     have hu' : xs[j]? = some u := by simpa [List.getElem?_map, LV.at, Function.comp_def] using hu
     have hc : col + j < wd' := by
      have h12 := hg j hj
      rw [hu'] at h12
      have := (List.getElem?_eq_some_iff.1 h12).1
      omega
     rw [ZCB]
     simp only [World.cell?, adr, h6, h2, Nat.zero_add, ite_self, Option.isSome_none, Bool.false_eq_true, if_false]
     rw [Nat.add_assoc, h11 _ hc, hg j hj, hu']
    ·exact he.elim
  ·exact he.elim
 ·rename_i wd' m' f hk
  split at he
  ·rename_i hwd
   obtain rfl := Nat.eq_of_beq_eq_true hwd
   obtain ⟨hrow, he⟩ := he
   rcases g.hm.at_ k _ hk with ⟨h0, _⟩ | ⟨h1, h3, h8⟩
   ·omega
   ·obtain ⟨h9, h10, h11⟩ := h8 row hrow
    split at he
    ·rename_i xs hx
     rw [ZB2] at he
     have hg := ZLM hx
     obtain ⟨hx1, hx2⟩ := ZJ3 hx
     refine ⟨xs.map LV.v, he, fun v hv => by simp at hv; obtain ⟨z, _, rfl⟩ := hv; trivial, by simpa using hx2, fun j u hu => ?_⟩
     have hj : j < m := by
      have := (List.getElem?_eq_some_iff.1 hu).1
      simp at this; omega
     have hu' : xs[j]? = some u := by simpa [List.getElem?_map, LV.at, Function.comp_def] using hu
     have hc : col + j < wd' := by
      have h12 := hg j hj
      rw [hu'] at h12
      have := (List.getElem?_eq_some_iff.1 h12).1
      omega
     rw [ZCB, Nat.add_assoc, h11 _ hc, hg j hj, hu']
    ·exact he.elim
  ·exact he.elim
 ·exact he.elim
omit g hr in
theorem ZGG (ρ : Env) : ∀ {xs : List LV} {ys : List Value}, plain xs = some ys -> xs.map (LV.at ρ) = ys
 | [], ys, h => by simp [plain] at h; subst h; rfl
 | .v x :: xs, ys, h => by
  simp only [plain] at h
  split at h
  ·rename_i zs hz
   simp at h; subst h
   rw [List.map_cons, ZGG ρ hz]; rfl
  ·cases h
 | .c f [] :: xs, ys, h => by
  simp only [plain] at h
  split at h
  ·rename_i zs hz
   simp at h; subst h
   rw [List.map_cons, ZGG ρ hz]; rfl
  ·cases h
 | .c f (_ :: _) :: _, _, h => by simp [plain] at h
 | .p .. :: _, _, h => by simp [plain] at h
 | .s .. :: _, _, h => by simp [plain] at h
 | .i .. :: _, _, h => by simp [plain] at h
 | .io .. :: _, _, h => by simp [plain] at h
omit g hr in
theorem ZCt : ∀ {xs : List LV}, ZF0 xs = true -> ∀ x ∈ xs, (x.at ρ).oneCell' = true
 | [], _, x, hx => by cases hx
 | y :: ys, h, x, hx => by
  simp only [ZF0] at h
  split at h
  ·rename_i hy
   rcases List.mem_cons.1 hx with rfl | hx
   ·cases x with
    | v x => exact hy
    | p => rfl
    | s k wd row len d => simp only [LV.at]; by_cases hh : (ρ k).nil = true <;> simp [hh, Value.oneCell']
    | i => rfl
    | io b t k => simp only [LV.at]; cases b <;> rfl
    | mref => rfl
    | stmp => rfl
    | c => rfl
    | fp => rfl
    | fs k q wd row len d => simp only [LV.at]; by_cases hh : ((ρ k).sub q).loc.nil = true <;> simp [hh, Value.oneCell']
   ·exact ZCt h x hx
  ·cases h
omit g hr in
theorem ZGH (v : AV) : (v.at ρ).oneCell' = true \/ (∃ xs, v = .a xs) -> (v.at ρ).cells.toList = (cellsOf v).map (LV.at ρ) := by
 intro h1
 cases v with
 | l x =>
  rcases h1 with h1 | ⟨xs, hx⟩
  ·simp only [AV.at, cellsOf, List.map_cons, List.map_nil] at h1 ⊢
   generalize x.at ρ = u at h1 ⊢
   cases u <;> simp_all [Value.cells, Value.oneCell']
  ·cases hx
 | a xs => simp [AV.at, cellsOf, Value.cells]
omit g hr in
theorem ZCu (w : World) (b : Nat) (cs : Array Value) : (w.setRow b cs).heap.size = w.heap.size := by simp [World.setRow]
omit hr in
theorem GM.write {k : Nat} {e e' : Ent} (hk : hget h k = some e) (ho : e.own = true) {b : Nat} {cs new : Array Value} {t : TypeId} (hF : φ k = [b]) (hb : w.heap[b]? = some (.cells cs t (0, 0)))
  (he : ZBl e' ρ D (ρ k) [b] (w.setRow b new)) : GM G ((k, some e') :: h) D ρ (fun j => if j = k then [b] else φ j) (w.setRow b new) := by
 have hbo := g.ow k e hk ho b (by simp [hF])
 refine g.put k e' [b] (fun _ _ => rfl) (fun _ hd => hd) (g.hm.lt k e hk) (fun k' e2 hk' hne b' hb' => setRow_other w b b' new fun heq => ?_) he
  (fun b' hb' => by simp at hb'; subst hb'; rw [ZCu]; exact (Array.getElem?_eq_some_iff.1 hb).1) (fun k' e2 hk' hne b' hb' hb'' => ?_) (fun _ b' hb' => by simp at hb'; subst hb'; exact hbo) ?_ (by rw [ZCu]; exact Nat.le_refl _) (fun _ b' hb' => by simp at hb'; subst hb'; exact .inr hbo)
 ·subst heq
  exact g.hm.dj k k' e e2 hk hk' (Ne.symm hne) ho b' (by simp [hF]) hb'
 ·simp at hb''; subst hb''
  exact g.hm.dj k k' e e2 hk hk' (Ne.symm hne) ho b' (by simp [hF]) hb'
 ·refine ⟨by rw [ZCu]; exact g.frm.size, fun b' hb' hn => ?_, g.frm.os, g.frm.tape, g.frm.output⟩
  rw [setRow_other w b b' new ?_]
  ·exact g.frm.blk b' hb' hn
  ·intro heq
   subst heq
   rcases hbo with hbo | hbo
   ·exact hn hbo
   ·omega
omit hr in
theorem ZFq {k wd row col m : Nat} {v : AV} {K' : Heap -> Prop} (hv : v.ok ρ D) (he : stAt h k wd row col m v K') :
  ∃ u w' φ', K' u /\ (cellsOf v).length = m /\ (v.at ρ).cells.toList = (cellsOf v).map (LV.at ρ) /\ (storeCells (adr (ρ k) (row * wd + col)) ((cellsOf v).map (LV.at ρ))).run G.P w = .ok () w' /\ GM G (u ++ h) D ρ φ' w' := by
 unfold stAt at he
 simp only [ZBz] at he
 have hvc : ∀ x ∈ cellsOf v, x.ok ρ D := by
  cases v with
  | l x => intro y hy; simp [cellsOf] at hy; subst hy; exact hv
  | a xs => exact hv
 split at he
 ·rename_i hm hone
  have hlen := Nat.eq_of_beq_eq_true hm
  have hone' := ZCt (ρ := ρ) hone
  have hcells : (v.at ρ).cells.toList = (cellsOf v).map (LV.at ρ) := ZGH v (by
   cases v with
   | l x => exact .inl (hone' x (by simp [cellsOf]))
   | a xs => exact .inr ⟨xs, rfl⟩)
  have hone2 : ∀ x ∈ (cellsOf v).map (LV.at ρ), x.oneCell' = true := by
   intro x hx
   obtain ⟨y, hy, rfl⟩ := List.mem_map.1 hx
   exact hone' y hy
  split at he
  ·rename_i cs hk
   split at he
   ·rename_i hle
    have hle := Nat.le_of_ble_eq_true hle
    obtain ⟨h1, h2, h3, ⟨t, h4⟩, h5⟩ := g.hm.at_ k _ hk
    have hst := run_storeCells_at G.P (ρ k).blk (row * wd + col) t ((cellsOf v).map (LV.at ρ)) 0 _ w h4 (by simp; omega) hone2
    refine ⟨_, _, fun j => if j = k then [(ρ k).blk] else φ j, he, hlen, hcells, by simp only [adr, h2, Nat.zero_add, ite_self]; exact hst, ?_⟩
    refine g.write hk rfl h3 h4 ⟨h1, h2, rfl, ⟨t, ?_⟩, fun x hx => ?_⟩
    ·rw [setRow_heap w _ _ _ t _ h4]
     congr 2
     rw [ZEr, ZDn _ _ _ (by simp; omega)]
     simp
    ·rcases ZDo _ _ _ _ hx with hx | hx
     ·exact h5 x hx
     ·exact hvc x hx
   ·exact he.elim
  ·rename_i wd' m' f hk
   split at he
   ·rename_i xs hwd hcol hpl
    obtain rfl := Nat.eq_of_beq_eq_true hwd
    have hcol := Nat.le_of_ble_eq_true hcol
    obtain ⟨hrow, he⟩ := he
    have hxv : (cellsOf v).map (LV.at ρ) = xs := ZGG ρ hpl
    have hxl : xs.length = m := by rw [<- hlen, <- hxv]; simp
    rcases g.hm.at_ k _ hk with ⟨_, h0, _⟩ | ⟨h1, h2, h3, h4, h5, cs, t, h6, h7, h8⟩
    ·omega
    ·have hsz : row * wd' + col + m <= cs.size := by
      rw [h7]
      have : (row + 1) * wd' <= (ρ k).cap * wd' := Nat.mul_le_mul_right _ (by omega)
      rw [Nat.add_mul] at this
      omega
     have hst := run_storeCells_at G.P (ρ k).blk (row * wd' + col) t xs 0 _ w h6 (by omega) (by rw [<- hxv]; exact hone2)
     refine ⟨_, _, fun j => if j = k then [(ρ k).blk] else φ j, he, hlen, hcells, by rw [hxv]; simp only [adr, h2, Nat.zero_add, ite_self]; exact hst, ?_⟩
     refine g.write hk rfl h3 h6 (.inr ⟨h1, h2, rfl, h4, h5, _, t, setRow_heap w _ _ _ t _ h6, by simp; omega, fun i hi => ?_⟩)
     obtain ⟨h9, h10, h11⟩ := h8 i hi
     have hf' : mrgL (i = row) (ZAI (f i) col xs) (f i) = if i = row then ZAI (f i) col xs else f i := ZEp _ _ _ (by rw [ZAi])
     show (mrgL (i = row) (ZAI (f i) col xs) (f i)).length = wd' /\ (∀ x ∈ mrgL (i = row) (ZAI (f i) col xs) (f i), x.oneCell' = true) /\ ∀ j, j < wd' -> _ = (mrgL (i = row) (ZAI (f i) col xs) (f i))[j]?
     rw [hf']
     have hsplit := ZDn cs.toList xs (row * wd' + col) (by simp; omega)
     simp only [Nat.add_zero]
     refine ⟨by split <;> simp [ZAi, h9], fun x hx => ?_, fun j hj => ?_⟩
     ·split at hx
      ·rcases ZDo _ _ _ _ hx with hx | hx
       ·exact h10 x hx
       ·exact hone2 x (by rw [hxv]; exact hx)
      ·exact h10 x hx
     ·rw [<- hsplit, List.getElem?_toArray, ZCs xs cs.toList _ (by simp; omega)]
      by_cases hir : i = row
      ·subst hir
       rw [if_pos rfl, ZCs xs (f i) col (by omega)]
       by_cases hjc : col <= j /\ j < col + xs.length
       ·have : i * wd' + col <= i * wd' + j /\ i * wd' + j < i * wd' + col + xs.length := by omega
        rw [if_pos this, if_pos hjc]
        congr 1; omega
       ·have : ¬ (i * wd' + col <= i * wd' + j /\ i * wd' + j < i * wd' + col + xs.length) := by omega
        rw [if_neg this, if_neg hjc]
        simpa using h11 j hj
      ·rw [if_neg hir]
       have : ¬ (row * wd' + col <= i * wd' + j /\ i * wd' + j < row * wd' + col + xs.length) := by
        intro hc
        rcases Nat.lt_or_gt_of_ne hir with hlt | hgt
        ·have : (i + 1) * wd' <= row * wd' := Nat.mul_le_mul_right _ hlt
         rw [Nat.add_mul] at this
         omega
        ·have : (row + 1) * wd' <= i * wd' := Nat.mul_le_mul_right _ hgt
         rw [Nat.add_mul] at this
         omega
       rw [if_neg this]
       simpa using h11 j hj
   ·exact he.elim
  ·rename_i m' f i y hk
   split at he
   ·rename_i hwd hcol
    obtain rfl := Nat.eq_of_beq_eq_true hwd
    obtain rfl := Nat.eq_of_beq_eq_true hcol
    split at he
    ·rename_i z hz
     obtain ⟨⟨rfl, hrow⟩, he⟩ := he
     rw [ZGk] at he
     have hm1 : m = 1 := by rw [<- hlen, hz]; rfl
     subst hm1
     have hxv : (cellsOf v).map (LV.at ρ) = [z.at ρ] := by rw [hz]; rfl
     obtain ⟨⟨h1, h2, h3, h4, h5⟩, ⟨h6, h7⟩, cs, t, h8, h9, h10⟩ := g.hm.at_ k _ hk
     have hsz : row * 1 + 0 + 1 <= cs.size := by rw [h9]; omega
     have hst := run_storeCells_at G.P (ρ k).blk (row * 1 + 0) t [z.at ρ] 0 _ w h8 (by simpa using hsz) (by rw [<- hxv]; exact hone2)
     refine ⟨_, _, fun j => if j = k then [(ρ k).blk] else φ j, he, hlen, hcells, by rw [hxv]; simp only [adr, h2, Nat.zero_add, ite_self]; exact hst, ?_⟩
     refine g.write hk rfl h3 h8 ⟨⟨h1, h2, rfl, h4, h5⟩, ⟨hrow, hvc z (by rw [hz]; simp)⟩, _, t, setRow_heap w _ _ _ t _ h8, by simp; omega, fun j hj => ?_⟩
     have hsplit := ZDn cs.toList [z.at ρ] (row * 1 + 0) (by simpa using hsz)
     rw [<- hsplit, List.getElem?_toArray, ZCs [z.at ρ] cs.toList _ (by simpa using hsz)]
     by_cases hjr : j = row
     ·subst hjr
      simp only [Nat.mul_one, Nat.add_zero, List.length_singleton, Nat.le_refl, Nat.lt_succ_self, and_self, if_true, Nat.sub_self, List.getElem?_cons_zero, true_and]
      exact hone2 _ (by rw [hxv]; simp)
     ·have : ¬ (row * 1 + 0 <= j /\ j < row * 1 + 0 + [z.at ρ].length) := by simp; omega
      rw [if_neg this]
      have := h10 j hj
      rw [if_neg hjr] at this ⊢
      simpa using this
    ·exact he.elim
   ·exact he.elim
  ·exact he.elim
 ·exact he.elim
end
end Go.Sx
