/- part -/
import Derived.Test.YtlkfolopbehikaaGreatSxH
import Derived.Laws.MakeOwn
import Derived.Laws.Tables
set_option linter.unusedSimpArgs false
set_option linter.unusedVariables false
set_option linter.unusedSectionVars false
namespace Go.Sx
open Go
section
variable {G : Ctx} {o : Oper} {a : Act} {r : Regs} {h : Heap} {D : Nat -> Prop} {n : Nat} {ρ : Env} {φ : Nat -> List Nat} {w : World} {K : SV -> Heap -> Nat -> Prop}
variable (g : GM G h D ρ φ w) (hr : RM r D ρ a)
include g hr
theorem ZIt {t : TypeId} {X : Operand} {Lo Hi : Option Operand} {x : O} {lo hi : Option O} (ho : o.op = .slice t X Lo Hi none) (hx : cO X = some x) (hlo : ∀ L, Lo = some L -> ∃ l, cO L = some l /\ lo = some l) (hlo' : Lo = none -> lo = none)
  (hhi : ∀ H, Hi = some H -> ∃ l, cO H = some l /\ hi = some l) (hhi' : Hi = none -> hi = none) (ht : G.P.underlying t = some .string)
  (he : evI (fun _ _ _ _ _ => False) (fun _ _ _ _ _ _ => False) (fun _ _ _ _ _ => False) (.slt x lo hi) r h n K) : Runs G o a h D n ρ w K := by
 simp only [evI] at he
 split at he
 ·rename_i s hv
  obtain ⟨h1, h2⟩ := ZAF hr hx hv
  simp only [AV.at, LV.at] at h1
  split at he
  ·have hl0 : Lo = none := by cases Lo with | none => rfl | some L => obtain ⟨l, _, e⟩ := hlo L rfl; cases e
   have hh0 : Hi = none := by cases Hi with | none => rfl | some L => obtain ⟨l, _, e⟩ := hhi L rfl; cases e
   subst hl0 hh0
   refine ZB1 g (x := .v _) trivial he ?_
   simp [execOp, ho, h1, Instr.sliceAt, Instr.slice, run_underlying ht, Instr.sliceBounds, SV.at, AV.at, LV.at]
  ·rename_i l
   have hh0 : Hi = none := by cases Hi with | none => rfl | some L => obtain ⟨l, _, e⟩ := hhi L rfl; cases e
   cases Lo with
   | none => cases hlo' rfl
   | some L =>
    obtain ⟨l', hl1, hl2⟩ := hlo L rfl
    cases hl2
    subst hh0
    split at he
    ·rename_i kk z hv2
     have h3 := ZAU g hr hl1 hv2
     obtain ⟨⟨hz0, hz1⟩, he⟩ := he
     refine ZB1 g (x := .v _) trivial he ?_
     simp [execOp, ho, h1, h3, Instr.sliceAt, Instr.slice, run_underlying ht, Instr.sliceBounds, Instr.sliceBound, asIntOf, hz0, hz1, SV.at, AV.at, LV.at]
    ·exact he.elim
  ·rename_i l
   have hh0 : Lo = none := by cases Lo with | none => rfl | some L => obtain ⟨l, _, e⟩ := hlo L rfl; cases e
   cases Hi with
   | none => cases hhi' rfl
   | some L =>
    obtain ⟨l', hl1, hl2⟩ := hhi L rfl
    cases hl2
    subst hh0
    split at he
    ·rename_i kk z hv2
     have h3 := ZAU g hr hl1 hv2
     obtain ⟨⟨hz0, hz1⟩, he⟩ := he
     refine ZB1 g (x := .v _) trivial he ?_
     simp [execOp, ho, h1, h3, Instr.sliceAt, Instr.slice, run_underlying ht, Instr.sliceBounds, Instr.sliceBound, asIntOf, hz0, hz1, SV.at, AV.at, LV.at]
    ·exact he.elim
  ·rename_i l hq
   cases Lo with
   | none => cases hlo' rfl
   | some L =>
    cases Hi with
    | none => cases hhi' rfl
    | some H =>
     obtain ⟨l', hl1, hl2⟩ := hlo L rfl
     cases hl2
     obtain ⟨l'', hl3, hl4⟩ := hhi H rfl
     cases hl4
     split at he
     ·rename_i kk z kk2 z2 hv2 hv3
      have h3 := ZAU g hr hl1 hv2
      have h4 := ZAU g hr hl3 hv3
      obtain ⟨⟨hz0, hz1, hz2⟩, he⟩ := he
      have hz20 : 0 <= z2 := by omega
      refine ZB1 g (x := .v _) trivial he ?_
      simp [execOp, ho, h1, h3, h4, Instr.sliceAt, Instr.slice, run_underlying ht, Instr.sliceBounds, Instr.sliceBound, asIntOf, hz0, hz1, hz2, hz20, Int.toNat_of_nonneg hz20, SV.at, AV.at, LV.at]
     ·exact he.elim
 ·exact he.elim
theorem ZRW {t : TypeId} {X : Operand} {x : O} {d : TypeDesc} (ho : o.op = .makeInterface t X) (hx : cO X = some x) (ht : G.P.underlying t = some d) (hd : ∀ m, d ≠ .interface m)
  (he : evI (fun _ _ _ _ _ => False) (fun _ _ _ _ _ _ => False) (fun _ _ _ _ _ => False) (.mki t x) r h n K) : Runs G o a h D n ρ w K := by
 have hrun : ∀ v, a.eval X = v -> (execOp a.eval o).run G.P w = .ok (.value (.iface t v)) w := by
  intro v hv
  simp only [execOp, ho, Instr.makeInterface, Sem.run_bind, run_underlying ht, Result.andThen_ok, hv]
  cases d <;> first | rfl | exact absurd rfl (hd _)
 simp only [evI] at he
 split at he
 ·rename_i k hv
  obtain ⟨h1, h2⟩ := ZAF hr hx hv
  refine ZB1 g (x := .i t k) h2 he ?_
  rw [hrun _ h1]
  simp [SV.at, AV.at, LV.at]
 ·rename_i v hv
  obtain ⟨h1, h2⟩ := ZAF hr hx hv
  exact ZB1 g (x := .v _) trivial he (by rw [hrun _ h1]; rfl)
 ·exact he.elim
theorem ZRX {f : FuncId} {Caps First : Array Operand} {caps : List O} (ho : o.op = .makeFunc (.func f) First Caps) (hfi : First.toList = []) (hx : cOs Caps.toList = some caps)
  (he : evI (fun _ _ _ _ _ => False) (fun _ _ _ _ _ _ => False) (fun _ _ _ _ _ => False) (.mkf f caps) r h n K) : Runs G o a h D n ρ w K := by
 have key : ∀ (Xs : List Operand) (xs : List O) (ks : List Nat), cOs Xs = some xs -> xs.foldr (fun o (acc : Option (List Nat)) => match oget r o, acc with
    | some (.l (.p k 0 0 0)), some ks => some (k :: ks)
    | _, _ => none) (some []) = some ks -> Xs.map a.eval = ks.map (fun k => Value.pointer (some (adr (ρ k) 0))) /\ ∀ k ∈ ks, D k := by
  intro Xs
  induction Xs with
  | nil =>
   intro xs ks h1 h2
   simp [cOs] at h1; subst h1
   simp at h2; subst h2
   simp
  | cons X Xs ih =>
   intro xs ks h1 h2
   simp only [cOs] at h1
   split at h1
   ·rename_i y ys hy hys
    simp at h1; subst h1
    simp only [List.foldr_cons] at h2
    split at h2
    ·rename_i k ks' hv hks
     simp at h2; subst h2
     obtain ⟨h3, h4⟩ := ZAF hr hy hv
     obtain ⟨h5, h6⟩ := ih ys ks' hys hks
     simp only [AV.at, LV.at] at h3
     exact ⟨by simp [h3, h5], by simpa using ⟨h4, h6⟩⟩
    ·cases h2
   ·cases h1
 simp only [evI] at he
 split at he
 ·rename_i ks hks
  obtain ⟨h1, h2⟩ := key _ _ _ hx hks
  obtain rfl : First = #[] := by apply Array.ext'; simpa using hfi
  refine ZB1 g (x := .c f ks) h2 he ?_
  have e1 : Caps.map a.eval = (Caps.toList.map a.eval).toArray := by apply Array.ext'; simp
  simp only [execOp, ho, Instr.makeFunc, Sem.run_bind, Sem.run_pure, Result.andThen_ok, SV.at, AV.at, LV.at, e1, h1]
  simp
 ·exact he.elim
theorem ZRY {t e : TypeId} {L C : Operand} {l c : O} {ti : TypeInfo} {z : List Value} (hn : ¬ D n) (ho : o.op = .makeSlice t L C) (hl : cO L = some l) (hc : cO C = some c) (ht : G.P.underlying t = some (.slice e)) (hti : G.P.info? e = some ti) (hz : ZB0 G.P e = some z)
  (he : evI (fun _ _ _ _ _ => False) (fun _ _ _ _ _ _ => False) (fun _ _ _ _ _ => False) (.mks ti.size ti.bytes z l c) r h n K) : Runs G o a h D n ρ w K := by
 simp only [evI] at he
 split at he
 ·rename_i v1 v2 hv1 hv2
  have h1 := ZAU g hr hl hv1
  have h2 := ZAU g hr hc hv2
  split at he
  ·rename_i hone
   obtain ⟨⟨rfl, h0, hb⟩, he⟩ := he
   obtain ⟨ti', zv, hi', hz1, hz2, hz3⟩ := ZBJ hz
   have : ti' = ti := by rw [hti] at hi'; cases hi'; rfl
   subst this
   obtain ⟨m, rfl⟩ := Int.eq_ofNat_of_zero_le h0
   obtain ⟨hb, hb0⟩ := hb
   have hm : m <= 281474976710656 := by
    have h3 : ((m * ti'.bytes : Nat) : Int) <= 281474976710656 := by push_cast; exact hb
    have h4 : m <= m * ti'.bytes := Nat.le_mul_of_pos_right _ hb0
    omega
   have hrun := run_make (P := G.P) w t e ti' zv ht hti hz1 .i64 .i64 (m : Int) (m : Int) h0 (Int.le_refl _) (by rw [Int.mul_comm]; exact hb) (by omega)
   simp only [Int.toNat_natCast] at hrun he
   have hzl : z.length = ti'.size := by rw [<- hz3, <- hz2]; simp
   refine ZFR g hn (.ar ti'.size m fun _ => z) { blk := w.heap.size, off := 0, cap := m, nil := false } (.cells (madeCells zv.cells (m * ti'.size)) e) (.o (.l (.s n ti'.size 0 m 0))) rfl rfl
    (fun ρ' hρ => .inr ⟨rfl, ⟨rfl, rfl⟩, rfl, Nat.le_refl _, by show m <= maxLen; unfold maxLen; omega, _, e, ZBg w _, size_madeCells _ _, fun i hi => ⟨hzl, fun x hx => ?_, fun j hj => ?_⟩⟩)
    (fun ρ' hl => ⟨.inr ⟨Nat.le_refl _, Nat.lt_succ_self _⟩, fun hf => (by rw [hl] at hf; cases hf), fun _ => ⟨by rw [hl]; simp, .inl (dof0 _ _), Nat.le_refl _⟩⟩) he (fun ρ' hl => ?_)
   ·have := ZCt (ρ := ρ) hone (.v x) (by simpa using hx)
    exact this
   ·have hlt : i * ti'.size + j < m * ti'.size := by
     have : (i + 1) * ti'.size <= m * ti'.size := Nat.mul_le_mul_right _ hi
     rw [Nat.add_mul] at this
     omega
    have hmod : (i * ti'.size + j) % ti'.size = j := by rw [Nat.mul_add_mod_self_right]; exact Nat.mod_eq_of_lt hj
    simp only [madeCells, Array.getElem?_map, Array.getElem?_range, hlt, if_true, Option.map_some, hz2, hmod]
    rw [<- hz3]
    simp [hz2, hj]
   ·simp only [execOp, ho, h1, h2, Sem.run_bind, hrun, Result.andThen_ok, Sem.run_pure]
    simp [SV.at, AV.at, LV.at, hl, adr]
  ·exact he.elim
 ·exact he.elim
omit g hr in
theorem ZOp (vs : List Value) : ∀ (cells : Array Value) (off k : Nat), ((vs.zipIdx k).foldl (fun (cs : Array Value) (p : Value × Nat) => cs.setIfInBounds (off + p.2) p.1) cells).toList = ZAI cells.toList (off + k) vs := by
 induction vs with
 | nil => intro cells off k; rfl
 | cons v vs ih =>
  intro cells off k
  simp only [List.zipIdx_cons, List.foldl_cons]
  rw [ih]
  simp [ZAI, ZCr, Nat.add_assoc]
theorem ZEL (pl : Nat -> Option (Nat × Nat)) : ∀ (Xs : List (Nat × Operand)) (ps : List (Nat × Nat × O)) (zc cs : List LV), cPts pl Xs = some ps -> ps.foldl (ZF9 r) (some zc) = some cs -> (∀ x ∈ zc, x.ok ρ D) ->
  Instr.fill pl ((zc.map (LV.at ρ)).toArray) (Xs.map fun p => (p.1, a.eval p.2)) = some (cs.map (LV.at ρ)).toArray /\ (∀ x ∈ cs, x.ok ρ D) /\ cs.length = zc.length
 | [], ps, zc, cs, hc, hf, hz => by
  simp [cPts] at hc; subst hc
  simp at hf; subst hf
  exact ⟨rfl, hz, rfl⟩
 | (i, X) :: Xs, ps, zc, cs, hc, hf, hz => by
  simp only [cPts] at hc
  split at hc
  ·rename_i p y ys hp hy hys
   simp at hc; subst hc
   simp only [List.foldl_cons] at hf
   cases hs : ZF9 r (some zc) (p.1, p.2, y) with
   | none =>
    rw [hs] at hf
    exfalso
    have : ∀ l : List (Nat × Nat × O), l.foldl (ZF9 r) none = none := by
     intro l; induction l with
     | nil => rfl
     | cons q l ih => simpa [ZF9] using ih
    rw [this] at hf; cases hf
   | some zc' =>
    rw [hs] at hf
    unfold ZF9 at hs
    simp only at hs
    split at hs
    ·rename_i cs0 v hcs0 hv
     cases hcs0
     split at hs
     ·rename_i hlen hle hone
      simp only [Option.some.injEq] at hs; subst hs
      have hlen := Nat.eq_of_beq_eq_true hlen
      have hle := Nat.le_of_ble_eq_true hle
      obtain ⟨h1, h2⟩ := ZAF hr hy hv
      have hvc : ∀ x ∈ cellsOf v, x.ok ρ D := by
       cases v with
       | l x => intro y hy; simp [cellsOf] at hy; subst hy; exact h2
       | a xs => exact h2
      have hcl : (v.at ρ).cells.toList = (cellsOf v).map (LV.at ρ) := ZGH v (by
       cases v with
       | l x => exact .inl (ZCt (xs := [x]) (by simp only [oneA] at hone; simp only [ZF0, hone]) x (by simp))
       | a xs => exact .inr ⟨xs, rfl⟩)
      obtain ⟨h3, h4, h5⟩ := ZEL pl Xs ys _ cs hys hf (fun x hx => by
       rcases ZDo _ _ _ _ hx with hx | hx
       ·exact hz x hx
       ·exact hvc x hx)
      refine ⟨?_, h4, by rw [h5, ZAi]⟩
      have hsz : (v.at ρ).cells.size = p.2 := by rw [<- Array.length_toList, hcl]; simpa using hlen
      simp only [List.map_cons, Instr.fill, hp, h1, hsz, ne_eq, not_true, decide_false, Bool.false_or]
      rw [if_neg (by simp; omega)]
      rw [<- h3]
      congr 1
      apply Array.ext'
      have := ZOp (v.at ρ).cells.toList (zc.map (LV.at ρ)).toArray p.1 0
      rw [<- Array.foldl_toList, Array.toList_zipIdx, this, hcl, ZEr]
      simp
     ·cases hs
    ·cases hs
  ·cases hc
theorem ZOq {t : TypeId} {parts : Array (Nat × Operand)} {ps : List (Nat × Nat × O)} {z : List Value} {pl : Nat -> Option (Nat × Nat)} (ho : o.op = .build t parts) (hps : cPts pl parts.toList = some ps) (hz : ZB0 G.P t = some z)
  (hb : ∀ (cells : Array Value) (vs : List (Nat × Value)), Instr.fill pl z.toArray vs = some cells -> G.P.built t vs = some cells)
  (he : evI (fun _ _ _ _ _ => False) (fun _ _ _ _ _ _ => False) (fun _ _ _ _ _ => False) (.bld (z.map LV.v) ps) r h n K) : Runs G o a h D n ρ w K := by
 simp only [evI, ZBz] at he
 split at he
 ·rename_i cs hcs
  obtain ⟨h1, h2, h3⟩ := ZEL g hr pl parts.toList ps (z.map LV.v) cs hps hcs (fun x hx => by simp at hx; obtain ⟨y, _, rfl⟩ := hx; trivial)
  refine ZAL g (x := .o (.a cs)) h2 he ?_
  simp only [List.map_map, Function.comp_def, LV.at, List.map_id'] at h1
  have h4 := hb _ _ h1
  have h5 := run_build (P := G.P) w t (parts.map fun (i, x) => (i, a.eval x)) _ (by simpa using h4)
  simp only [execOp, ho, Sem.run_bind, h5, Result.andThen_ok, Sem.run_pure]
  rfl
 ·exact he.elim
end
end Go.Sx
