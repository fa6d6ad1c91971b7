/- part -/
import Derived.Test.YtlkfolopbehikaaGreatSxG
import Derived.Laws.Slices
set_option linter.unusedSimpArgs false
set_option linter.unusedVariables false
set_option linter.unusedSectionVars false
namespace Go.Sx
open Go
section
variable {G : Ctx} {o : Oper} {a : Act} {r : Regs} {h : Heap} {D : Nat -> Prop} {n : Nat} {ρ : Env} {φ : Nat -> List Nat} {w : World} {K : SV -> Heap -> Nat -> Prop}
variable (g : GM G h D ρ φ w) (hr : RM r D ρ a)
include g hr
theorem ZRR {t e : TypeId} {m : Nat} {X I' : Operand} {x i : O} {ti : TypeInfo} (ho : o.op = .indexAddr t X I') (hx : cO X = some x) (hi : cO I' = some i) (ht : G.P.underlying t = some (.array m e)) (hti : G.P.info? e = some ti)
  (he : evI (fun _ _ _ _ _ => False) (fun _ _ _ _ _ _ => False) (fun _ _ _ _ _ => False) (.ixa ti.size m x i) r h n K) : Runs G o a h D n ρ w K := by
 simp only [evI] at he
 split at he
 ·rename_i k wd row col kk z hv1 hv2
  obtain ⟨h1, h1'⟩ := ZAF hr hx hv1
  have h2 := ZAU g hr hi hv2
  obtain ⟨⟨hz0, hz1⟩, he⟩ := he
  refine ZAL g (x := .o (.l (.p k wd row (col + z.toNat * ti.size)))) h1' he ?_
  simp only [AV.at, LV.at] at h1
  simp [execOp, ho, h1, h2, Instr.indexAt, asIntOf, run_underlying ht, hz0, hz1, ZAX hti, ZCB, SV.at, AV.at, LV.at, Instr.sureAddr, Nat.add_assoc]
 ·unfold ixaX at he
  split at he
  ·rename_i b off hv1
   split at he
   ·rename_i kk z hv2
    obtain ⟨h1, h1'⟩ := ZAF hr hx hv1
    have h2 := ZAU g hr hi hv2
    obtain ⟨⟨hz0, hz1⟩, he⟩ := he
    refine ZAL g (x := .o (.l (.v (.pointer (some ⟨b, off + z.toNat * ti.size, none⟩))))) trivial he ?_
    simp only [AV.at, LV.at] at h1
    have hadd : (⟨b, off, none⟩ : Addr).add (z.toNat * ti.size) = ⟨b, off + z.toNat * ti.size, none⟩ := by
     unfold Addr.add
     split
     ·rename_i h0; rw [h0]; rfl
     ·rfl
    simp [execOp, ho, h1, h2, Instr.indexAt, asIntOf, run_underlying ht, hz0, hz1, ZAX hti, hadd, SV.at, AV.at, LV.at, Instr.sureAddr]
   ·exact he.elim
  ·exact he.elim
theorem ZRS {t : TypeId} {X I' : Operand} {x i : O} (ho : o.op = .index t X I') (hx : cO X = some x) (hi : cO I' = some i) (ht : G.P.underlying t = some .string)
  (he : evI (fun _ _ _ _ _ => False) (fun _ _ _ _ _ _ => False) (fun _ _ _ _ _ => False) (.ixt x i) r h n K) : Runs G o a h D n ρ w K := by
 simp only [evI] at he
 split at he
 ·rename_i s kk z hv1 hv2
  obtain ⟨h1, h1'⟩ := ZAF hr hx hv1
  have h2 := ZAU g hr hi hv2
  obtain ⟨⟨hz0, hz1⟩, he⟩ := he
  have hlt : z.toNat < s.size := by omega
  refine ZAL g (x := sInt _ _) trivial he ?_
  simp only [AV.at, LV.at] at h1
  simp [execOp, ho, h1, h2, Instr.index, asIntOf, run_underlying ht, hz0, hlt, SV.at, AV.at, LV.at, sInt]
 ·exact he.elim
theorem ZRT {t : TypeId} {j : Nat} {X : Operand} {x : O} {fs : Array Field} {f : Field} {d : TypeDesc} (ho : o.op = .field t X j) (hx : cO X = some x) (ht : G.P.underlying t = some (.struct fs)) (hf : fs[j]? = some f) (hd : G.P.underlying f.type = some d) (hag : ZEa d = false)
  (he : evI (fun _ _ _ _ _ => False) (fun _ _ _ _ _ _ => False) (fun _ _ _ _ _ => False) (.fld f.offset x) r h n K) : Runs G o a h D n ρ w K := by
 simp only [evI] at he
 split at he
 ·rename_i vs hv
  obtain ⟨h1, h1'⟩ := ZAF hr hx hv
  rw [ZAc] at he
  split at he
  ·rename_i v hv'
   refine ZAL g (x := .o (.l v)) (h1' v (List.mem_of_getElem? hv')) he ?_
   simp only [AV.at] at h1
   simp [execOp, ho, h1, Instr.field, asAgg, run_underlying ht, hf, part, ZA4 hd, hag, hv', SV.at, AV.at]
  ·exact he.elim
 ·exact he.elim
theorem ZP7 {t : TypeId} {j : Nat} {X : Operand} {x : O} {fs : Array Field} {f : Field} {d : TypeDesc} {ti : TypeInfo} (ho : o.op = .field t X j) (hx : cO X = some x) (ht : G.P.underlying t = some (.struct fs)) (hf : fs[j]? = some f) (hd : G.P.underlying f.type = some d) (hag : ZEa d = true)
  (hti : G.P.info? f.type = some ti)
  (he : evI (fun _ _ _ _ _ => False) (fun _ _ _ _ _ _ => False) (fun _ _ _ _ _ => False) (.flda f.offset ti.size x) r h n K) : Runs G o a h D n ρ w K := by
 simp only [evI] at he
 split at he
 ·rename_i vs hv
  obtain ⟨h1, h1'⟩ := ZAF hr hx hv
  split at he
  ·rename_i us hu
   obtain ⟨hu1, hu2⟩ := ZJ3 hu
   refine ZAL g (x := .o (.a us)) (fun v hv => h1' v (by rw [hu1] at hv; exact List.mem_of_mem_drop (List.mem_of_mem_take hv))) he ?_
   simp only [AV.at] at h1
   simp [execOp, ho, h1, Instr.field, asAgg, run_underlying ht, hf, part, ZA4 hd, hag, ZAX hti, SV.at, AV.at, hu1, List.map_take, List.map_drop]
  ·exact he.elim
 ·exact he.elim
theorem ZRU {j : Nat} {X : Operand} {x : O} (ho : o.op = .extract X j) (hx : cO X = some x)
  (he : evI (fun _ _ _ _ _ => False) (fun _ _ _ _ _ _ => False) (fun _ _ _ _ _ => False) (.ext j x) r h n K) : Runs G o a h D n ρ w K := by
 simp only [evI] at he
 split at he
 ·rename_i t
  split at he
  ·rename_i xs hv
   rw [ZAc] at he
   split at he
   ·rename_i v hv'
    obtain ⟨h1, h2⟩ := hr t _ hv
    refine ZAL g (x := .o v) (h2 v (List.mem_of_getElem? hv')) he ?_
    have hX : X = .tmp t := by
     cases X <;> simp [cO] at hx
     ·exact congrArg Operand.tmp hx
     ·rename_i u; cases u <;> simp at hx
    subst hX
    have : a.eval (.tmp t) = .tuple (xs.map (AV.at ρ)).toArray := by simp [Act.eval, h1, SV.at]
    simp [execOp, ho, this, Instr.extract, hv', SV.at]
   ·exact he.elim
  ·exact he.elim
 ·exact he.elim
theorem ZRV {X : Operand} {x : O} {t : TypeId} {e : TypeId} {args : Array Operand} {ats : Array TypeId} (ho : o.op = .call { callee := .builtin .len, args := args, argTypes := ats }) (hargs : args.toList = [X]) (hats : ats.toList = [t]) (hx : cO X = some x)
  (ht : G.P.underlying t = some (.slice e))
  (he : evI (fun _ _ _ _ _ => False) (fun _ _ _ _ _ _ => False) (fun _ _ _ _ _ => False) (.len x) r h n K) : Runs G o a h D n ρ w K := by
 obtain rfl : args = #[X] := by apply Array.ext'; simpa using hargs
 obtain rfl : ats = #[t] := by apply Array.ext'; simpa using hats
 simp only [evI] at he
 split at he
 ·rename_i k wd row len dd hv
  obtain ⟨h1, h2⟩ := ZAF hr hx hv
  refine ZAL g (x := sInt _ _) trivial he ?_
  simp only [AV.at, LV.at] at h1
  cases hh : (ρ k).nil with
  | true =>
   simp only [hh, if_true] at h1
   have := h2.2.1 hh
   simp [execOp, ho, resolve, invoke, builtin, h1, Builtin.len_, run_underlying ht, SV.at, AV.at, LV.at, sInt, goInt, this]
  | false =>
   simp only [hh, Bool.false_eq_true, if_false] at h1
   simp [execOp, ho, resolve, invoke, builtin, h1, Builtin.len_, run_underlying ht, SV.at, AV.at, LV.at, sInt, goInt]
 ·rename_i ad len cap hv
  obtain ⟨h1, h2⟩ := ZAF hr hx hv
  refine ZAL g (x := sInt _ _) trivial he ?_
  simp only [AV.at, LV.at] at h1
  simp [execOp, ho, resolve, invoke, builtin, h1, Builtin.len_, run_underlying ht, SV.at, AV.at, LV.at, sInt, goInt]
 ·unfold lenX at he
  split at he
  ·rename_i k q wd row len dd hv
   obtain ⟨h1, h2⟩ := ZAF hr hx hv
   refine ZAL g (x := sInt _ _) trivial he ?_
   simp only [AV.at, LV.at] at h1
   cases hh : ((ρ k).sub q).loc.nil with
   | true =>
    simp only [hh, if_true] at h1
    have := h2.2.1 hh
    simp [execOp, ho, resolve, invoke, builtin, h1, Builtin.len_, run_underlying ht, SV.at, AV.at, LV.at, sInt, goInt, this]
   | false =>
    simp only [hh, Bool.false_eq_true, if_false] at h1
    simp [execOp, ho, resolve, invoke, builtin, h1, Builtin.len_, run_underlying ht, SV.at, AV.at, LV.at, sInt, goInt]
  ·exact he.elim
theorem ZP8 {X : Operand} {x : O} {t : TypeId} {args : Array Operand} {ats : Array TypeId} (ho : o.op = .call { callee := .builtin .len, args := args, argTypes := ats }) (hargs : args.toList = [X]) (hats : ats.toList = [t]) (hx : cO X = some x)
  (ht : G.P.underlying t = some .string)
  (he : evI (fun _ _ _ _ _ => False) (fun _ _ _ _ _ _ => False) (fun _ _ _ _ _ => False) (.lens x) r h n K) : Runs G o a h D n ρ w K := by
 obtain rfl : args = #[X] := by apply Array.ext'; simpa using hargs
 obtain rfl : ats = #[t] := by apply Array.ext'; simpa using hats
 simp only [evI] at he
 split at he
 ·rename_i s hv
  obtain ⟨h1, h2⟩ := ZAF hr hx hv
  refine ZAL g (x := sInt _ _) trivial he ?_
  simp only [AV.at, LV.at] at h1
  simp [execOp, ho, resolve, invoke, builtin, h1, Builtin.len_, run_underlying ht, SV.at, AV.at, LV.at, sInt, goInt]
 ·exact he.elim
theorem ZSN {X Y : Operand} {x y : O} {k : IntKind} {args : Array Operand} {ats : Array TypeId} (ho : o.op = .call { callee := .builtin .max, args := args, argTypes := ats }) (hargs : args.toList = [X, Y]) (hx : cO X = some x) (hy : cO Y = some y)
  (he : evI (fun _ _ _ _ _ => False) (fun _ _ _ _ _ _ => False) (fun _ _ _ _ _ => False) (.mx k x y) r h n K) : Runs G o a h D n ρ w K := by
 obtain rfl : args = #[X, Y] := by apply Array.ext'; simpa using hargs
 simp only [evI] at he
 split at he
 ·rename_i k1 z1 k2 z2 hv1 hv2
  have h1 := ZAU g hr hx hv1
  have h2 := ZAU g hr hy hv2
  split at he
  ·rename_i e1
   subst e1
   split at he
   ·rename_i e2
    subst e2
    refine ZAL g (x := sInt _ _) trivial he ?_
    simp [execOp, ho, resolve, invoke, builtin, h1, h2, Builtin.max_, Builtin.max2, SV.at, AV.at, LV.at, sInt]
    split <;> omega
   ·exact he.elim
  ·exact he.elim
 ·exact he.elim
theorem ZSO {X Y : Operand} {x y : O} {k : IntKind} {args : Array Operand} {ats : Array TypeId} (ho : o.op = .call { callee := .builtin .min, args := args, argTypes := ats }) (hargs : args.toList = [X, Y]) (hx : cO X = some x) (hy : cO Y = some y)
  (he : evI (fun _ _ _ _ _ => False) (fun _ _ _ _ _ _ => False) (fun _ _ _ _ _ => False) (.mn k x y) r h n K) : Runs G o a h D n ρ w K := by
 obtain rfl : args = #[X, Y] := by apply Array.ext'; simpa using hargs
 simp only [evI] at he
 split at he
 ·rename_i k1 z1 k2 z2 hv1 hv2
  have h1 := ZAU g hr hx hv1
  have h2 := ZAU g hr hy hv2
  split at he
  ·rename_i e1
   subst e1
   split at he
   ·rename_i e2
    subst e2
    refine ZAL g (x := sInt _ _) trivial he ?_
    simp [execOp, ho, resolve, invoke, builtin, h1, h2, Builtin.min_, Builtin.min2, SV.at, AV.at, LV.at, sInt]
    split <;> omega
   ·exact he.elim
  ·exact he.elim
 ·exact he.elim
omit hr in
theorem ZB1 {x : LV} (k1 : x.ok ρ D) (he : K (.o (.l x)) [] n) (k3 : (execOp a.eval o).run G.P w = .ok (.value (SV.at ρ (.o (.l x)))) w) : Runs G o a h D n ρ w K := ZAL g (x := .o (.l x)) k1 he k3
theorem ZIs {t e : TypeId} {X : Operand} {Lo Hi : Option Operand} {x : O} {lo hi : Option O} {ti : TypeInfo} (ho : o.op = .slice t X Lo Hi none) (hx : cO X = some x) (hlo : ∀ L, Lo = some L -> ∃ l, cO L = some l /\ lo = some l) (hlo' : Lo = none -> lo = none)
  (hhi : ∀ H, Hi = some H -> ∃ l, cO H = some l /\ hi = some l) (hhi' : Hi = none -> hi = none) (ht : G.P.underlying t = some (.slice e)) (hti : G.P.info? e = some ti)
  (he : evI (fun _ _ _ _ _ => False) (fun _ _ _ _ _ _ => False) (fun _ _ _ _ _ => False) (.slc ti.size x lo hi) r h n K) : Runs G o a h D n ρ w K := by
 simp only [evI] at he
 split at he
 ·rename_i k wd' row len dd hv
  obtain ⟨h1, h2⟩ := ZAF hr hx hv
  obtain ⟨hD, hn1, hn2⟩ := h2
  simp only [AV.at, LV.at] at h1
  split at he
  ·rename_i hwd
   have hwd := Nat.eq_of_beq_eq_true hwd
   subst hwd
   -- what the slice is
   have hform : ∃ A c, a.eval X = .slice A len c /\ len <= c /\ (((ρ k).nil = true /\ A = none /\ len = 0 /\ c = 0) \/ ((ρ k).nil = false /\ A = some (adr (ρ k) ((row - dof (ρ k).cap row dd) * ti.size)) /\ c = (ρ k).cap - row /\ row + len <= (ρ k).cap /\ (dof (ρ k).cap row dd = 0 \/ len = 0) /\ dd <= row)) := by
    cases hh : (ρ k).nil with
    | true => exact ⟨none, 0, by rw [h1, hh]; simp [hn1 hh], by have := hn1 hh; omega, .inl ⟨rfl, rfl, hn1 hh, rfl⟩⟩
    | false =>
     obtain ⟨q1, q2, q3⟩ := hn2 hh
     exact ⟨_, _, by rw [h1, hh]; simp, by omega, .inr ⟨rfl, rfl, rfl, q1, q2, q3⟩⟩
   obtain ⟨A, c, hX, hlc, hcase⟩ := hform
   have key : ∀ (l hh' : Nat), l <= hh' -> hh' <= len -> (execOp a.eval o).run G.P w = .ok (.value (.slice (if c = l then A else A.map (·.add (l * ti.size))) (hh' - l) (c - l))) w ->
     ((LV.s k ti.size (nadd row l) (hh' - l) (dcut l dd)).ok ρ D /\ (execOp a.eval o).run G.P w = .ok (.value (SV.at ρ (.o (.l (.s k ti.size (nadd row l) (hh' - l) (dcut l dd)))))) w) := by
    intro l hh' hl1 hl2 hrun
    rcases hcase with ⟨q1, q2, q3, q4⟩ | ⟨q1, q2, q3, q4, q5, q6⟩
    ·have : l = 0 := by omega
     subst this
     have : hh' = 0 := by omega
     subst this
     refine ⟨⟨hD, fun _ => (by omega), fun hf => (by rw [q1] at hf; cases hf)⟩, ?_⟩
     rw [hrun, q2, q4]
     simp [SV.at, AV.at, LV.at, q1]
    ·have hdr : dcut l dd <= row + l := by cases l <;> simp only [dcut] <;> omega
     have hdz : dof (ρ k).cap (row + l) (dcut l dd) = 0 \/ hh' - l = 0 := by
      unfold dof; split
      ·exact .inl rfl
      ·right; omega
     refine ⟨⟨hD, fun hf => (by rw [q1] at hf; cases hf), fun _ => ?_⟩, ?_⟩
     ·rw [ZAO, Nat.add_comm l row]
      exact ⟨by omega, hdz, hdr⟩
     ·rw [hrun]
      simp only [SV.at, AV.at, LV.at, q1, Bool.false_eq_true, if_false, ZAO, Nat.add_comm l row]
      congr 3
      ·rw [q2]
       by_cases hcl : c = l
       ·rw [if_pos hcl]
        congr 3
        have e1 : ¬ row + l < (ρ k).cap := by omega
        cases l with
        | zero => rfl
        | succ l' =>
         have e2 : row < (ρ k).cap := by omega
         simp only [dof, if_neg e1, if_pos e2, dcut]; omega
       ·rw [if_neg hcl]
        have e1 : row + l < (ρ k).cap := by omega
        have e2 : row < (ρ k).cap := by omega
        simp only [dof, if_pos e1, if_pos e2]
        simp only [Option.map_some, ZCB]
        congr 2
        rw [<- Nat.add_mul]; congr 1
      ·omega
   have hfirst : ∀ hh' : Nat, hh' <= len -> (execOp a.eval o).run G.P w = .ok (.value (.slice (if c = 0 then A else A.map (·.add (0 * ti.size))) (hh' - 0) (c - 0))) w ->
     (LV.s k ti.size row hh' dd).ok ρ D /\ (execOp a.eval o).run G.P w = .ok (.value (SV.at ρ (.o (.l (.s k ti.size row hh' dd))))) w := by
    intro hh' hl2 hrun
    have hA : (if c = 0 then A else A.map (·.add (0 * ti.size))) = A := by
     split
     ·rfl
     ·cases A <;> simp [Addr.add]
    rw [hrun, hA]
    rcases hcase with ⟨q1, q2, q3, q4⟩ | ⟨q1, q2, q3, q4, q5, q6⟩
    ·have : hh' = 0 := by omega
     subst this
     refine ⟨⟨hD, fun _ => rfl, fun hf => (by rw [q1] at hf; cases hf)⟩, ?_⟩
     simp [SV.at, AV.at, LV.at, q1, q2, q4]
    ·refine ⟨⟨hD, fun hf => (by rw [q1] at hf; cases hf), fun _ => ⟨by omega, by omega, q6⟩⟩, ?_⟩
     simp [SV.at, AV.at, LV.at, q1, q2, q3]
   split at he
   ·-- none, none
    have hl0 : Lo = none := by cases Lo with | none => rfl | some L => obtain ⟨l, _, e⟩ := hlo L rfl; cases e
    have hh0 : Hi = none := by cases Hi with | none => rfl | some L => obtain ⟨l, _, e⟩ := hhi L rfl; cases e
    subst hl0 hh0
    have hrun : (execOp a.eval o).run G.P w = .ok (.value (.slice (if c = 0 then A else A.map (·.add (0 * ti.size))) (len - 0) (c - 0))) w := by
     simp [execOp, ho, hX, Instr.sliceAt, Instr.slice, run_underlying ht, Instr.sliceBounds, ZAX hti, eq_comm]
    obtain ⟨k1, k2⟩ := hfirst len (Nat.le_refl _) hrun
    exact ZB1 g k1 he k2
   ·rename_i l
    have hh0 : Hi = none := by cases Hi with | none => rfl | some L => obtain ⟨l, _, e⟩ := hhi L rfl; cases e
    cases Lo with
    | none => cases hlo' rfl
    | some L =>
     obtain ⟨l', hl1, hl2⟩ := hlo L rfl
     cases hl2
     subst hh0
     split at he
     ·rename_i kk z hv2
      have h3 := ZAU g hr hl1 hv2
      obtain ⟨⟨hz0, hz1⟩, he⟩ := he
      have hrun : (execOp a.eval o).run G.P w = .ok (.value (.slice (if c = z.toNat then A else A.map (·.add (z.toNat * ti.size))) (len - z.toNat) (c - z.toNat))) w := by
       simp [execOp, ho, hX, h3, Instr.sliceAt, Instr.slice, run_underlying ht, Instr.sliceBounds, Instr.sliceBound, asIntOf, hz0, hz1, ZAX hti, eq_comm]
      obtain ⟨k1, k3⟩ := key z.toNat len (by omega) (Nat.le_refl _) hrun
      exact ZB1 g k1 he k3
     ·exact he.elim
   ·rename_i l
    have hh0 : Lo = none := by cases Lo with | none => rfl | some L => obtain ⟨l, _, e⟩ := hlo L rfl; cases e
    cases Hi with
    | none => cases hhi' rfl
    | some L =>
     obtain ⟨l', hl1, hl2⟩ := hhi L rfl
     cases hl2
     subst hh0
     split at he
     ·rename_i kk z hv2
      have h3 := ZAU g hr hl1 hv2
      obtain ⟨⟨hz0, hz1⟩, he⟩ := he
      have hzc : z <= (c : Int) := by omega
      have hrun : (execOp a.eval o).run G.P w = .ok (.value (.slice (if c = 0 then A else A.map (·.add (0 * ti.size))) (z.toNat - 0) (c - 0))) w := by
       simp [execOp, ho, hX, h3, Instr.sliceAt, Instr.slice, run_underlying ht, Instr.sliceBounds, Instr.sliceBound, asIntOf, hz0, hzc, ZAX hti, eq_comm]
      obtain ⟨k1, k2⟩ := hfirst z.toNat (by omega) hrun
      exact ZB1 g k1 he k2
     ·exact he.elim
   ·rename_i l hq
    cases Lo with
    | none => cases hlo' rfl
    | some L =>
     cases Hi with
     | none => cases hhi' rfl
     | some H =>
      obtain ⟨l', hl1, hl2⟩ := hlo L rfl
      cases hl2
      obtain ⟨l'', hl3, hl4⟩ := hhi H rfl
      cases hl4
      split at he
      ·rename_i kk z kk2 z2 hv2 hv3
       have h3 := ZAU g hr hl1 hv2
       have h4 := ZAU g hr hl3 hv3
       obtain ⟨⟨hz0, hz1, hz2⟩, he⟩ := he
       have hzc : z2 <= (c : Int) := by omega
       have hz20 : 0 <= z2 := by omega
       have hzz : z <= (z2.toNat : Int) := by omega
       have hrun : (execOp a.eval o).run G.P w = .ok (.value (.slice (if c = z.toNat then A else A.map (·.add (z.toNat * ti.size))) (z2.toNat - z.toNat) (c - z.toNat))) w := by
        simp [execOp, ho, hX, h3, h4, Instr.sliceAt, Instr.slice, run_underlying ht, Instr.sliceBounds, Instr.sliceBound, asIntOf, hz0, hz1, Int.toNat_of_nonneg hz20, hzc, hz20, ZAX hti, eq_comm]
       obtain ⟨k1, k3⟩ := key z.toNat z2.toNat (by omega) (by omega) hrun
       exact ZB1 g k1 he k3
      ·exact he.elim
  ·exact he.elim
 ·unfold slcX at he
  split at he
  ·rename_i k q wd' row len dd hv
   obtain ⟨h1, h2⟩ := ZAF hr hx hv
   obtain ⟨hD, hn1, hn2⟩ := h2
   simp only [AV.at, LV.at] at h1
   split at he
   ·rename_i hwd
    have hwd := Nat.eq_of_beq_eq_true hwd
    subst hwd
    -- what the slice is
    have hform : ∃ A c, a.eval X = .slice A len c /\ len <= c /\ ((((ρ k).sub q).loc.nil = true /\ A = none /\ len = 0 /\ c = 0) \/ (((ρ k).sub q).loc.nil = false /\ A = some (adr ((ρ k).sub q).loc ((row - dof ((ρ k).sub q).loc.cap row dd) * ti.size)) /\ c = ((ρ k).sub q).loc.cap - row /\ row + len <= ((ρ k).sub q).loc.cap /\ (dof ((ρ k).sub q).loc.cap row dd = 0 \/ len = 0) /\ dd <= row)) := by
     cases hh : ((ρ k).sub q).loc.nil with
     | true => exact ⟨none, 0, by rw [h1, hh]; simp [hn1 hh], by have := hn1 hh; omega, .inl ⟨rfl, rfl, hn1 hh, rfl⟩⟩
     | false =>
      obtain ⟨q1, q2, q3⟩ := hn2 hh
      exact ⟨_, _, by rw [h1, hh]; simp, by omega, .inr ⟨rfl, rfl, rfl, q1, q2, q3⟩⟩
    obtain ⟨A, c, hX, hlc, hcase⟩ := hform
    have key : ∀ (l hh' : Nat), l <= hh' -> hh' <= len -> (execOp a.eval o).run G.P w = .ok (.value (.slice (if c = l then A else A.map (·.add (l * ti.size))) (hh' - l) (c - l))) w ->
      ((LV.fs k q ti.size (nadd row l) (hh' - l) (dcut l dd)).ok ρ D /\ (execOp a.eval o).run G.P w = .ok (.value (SV.at ρ (.o (.l (.fs k q ti.size (nadd row l) (hh' - l) (dcut l dd)))))) w) := by
     intro l hh' hl1 hl2 hrun
     rcases hcase with ⟨q1, q2, q3, q4⟩ | ⟨q1, q2, q3, q4, q5, q6⟩
     ·have : l = 0 := by omega
      subst this
      have : hh' = 0 := by omega
      subst this
      refine ⟨⟨hD, fun _ => (by omega), fun hf => (by rw [q1] at hf; cases hf)⟩, ?_⟩
      rw [hrun, q2, q4]
      simp [SV.at, AV.at, LV.at, q1]
     ·have hdr : dcut l dd <= row + l := by cases l <;> simp only [dcut] <;> omega
      have hdz : dof ((ρ k).sub q).loc.cap (row + l) (dcut l dd) = 0 \/ hh' - l = 0 := by
       unfold dof; split
       ·exact .inl rfl
       ·right; omega
      refine ⟨⟨hD, fun hf => (by rw [q1] at hf; cases hf), fun _ => ?_⟩, ?_⟩
      ·rw [ZAO, Nat.add_comm l row]
       exact ⟨by omega, hdz, hdr⟩
      ·rw [hrun]
       simp only [SV.at, AV.at, LV.at, q1, Bool.false_eq_true, if_false, ZAO, Nat.add_comm l row]
       congr 3
       ·rw [q2]
        by_cases hcl : c = l
        ·rw [if_pos hcl]
         congr 3
         have e1 : ¬ row + l < ((ρ k).sub q).loc.cap := by omega
         cases l with
         | zero => rfl
         | succ l' =>
          have e2 : row < ((ρ k).sub q).loc.cap := by omega
          simp only [dof, if_neg e1, if_pos e2, dcut]; omega
        ·rw [if_neg hcl]
         have e1 : row + l < ((ρ k).sub q).loc.cap := by omega
         have e2 : row < ((ρ k).sub q).loc.cap := by omega
         simp only [dof, if_pos e1, if_pos e2]
         simp only [Option.map_some, ZCB]
         congr 2
         rw [<- Nat.add_mul]; congr 1
       ·omega
    have hfirst : ∀ hh' : Nat, hh' <= len -> (execOp a.eval o).run G.P w = .ok (.value (.slice (if c = 0 then A else A.map (·.add (0 * ti.size))) (hh' - 0) (c - 0))) w ->
      (LV.fs k q ti.size row hh' dd).ok ρ D /\ (execOp a.eval o).run G.P w = .ok (.value (SV.at ρ (.o (.l (.fs k q ti.size row hh' dd))))) w := by
     intro hh' hl2 hrun
     have hA : (if c = 0 then A else A.map (·.add (0 * ti.size))) = A := by
      split
      ·rfl
      ·cases A <;> simp [Addr.add]
     rw [hrun, hA]
     rcases hcase with ⟨q1, q2, q3, q4⟩ | ⟨q1, q2, q3, q4, q5, q6⟩
     ·have : hh' = 0 := by omega
      subst this
      refine ⟨⟨hD, fun _ => rfl, fun hf => (by rw [q1] at hf; cases hf)⟩, ?_⟩
      simp [SV.at, AV.at, LV.at, q1, q2, q4]
     ·refine ⟨⟨hD, fun hf => (by rw [q1] at hf; cases hf), fun _ => ⟨by omega, by omega, q6⟩⟩, ?_⟩
      simp [SV.at, AV.at, LV.at, q1, q2, q3]
    split at he
    ·-- none, none
     have hl0 : Lo = none := by cases Lo with | none => rfl | some L => obtain ⟨l, _, e⟩ := hlo L rfl; cases e
     have hh0 : Hi = none := by cases Hi with | none => rfl | some L => obtain ⟨l, _, e⟩ := hhi L rfl; cases e
     subst hl0 hh0
     have hrun : (execOp a.eval o).run G.P w = .ok (.value (.slice (if c = 0 then A else A.map (·.add (0 * ti.size))) (len - 0) (c - 0))) w := by
      simp [execOp, ho, hX, Instr.sliceAt, Instr.slice, run_underlying ht, Instr.sliceBounds, ZAX hti, eq_comm]
     obtain ⟨k1, k2⟩ := hfirst len (Nat.le_refl _) hrun
     exact ZB1 g k1 he k2
    ·rename_i l
     have hh0 : Hi = none := by cases Hi with | none => rfl | some L => obtain ⟨l, _, e⟩ := hhi L rfl; cases e
     cases Lo with
     | none => cases hlo' rfl
     | some L =>
      obtain ⟨l', hl1, hl2⟩ := hlo L rfl
      cases hl2
      subst hh0
      split at he
      ·rename_i kk z hv2
       have h3 := ZAU g hr hl1 hv2
       obtain ⟨⟨hz0, hz1⟩, he⟩ := he
       have hrun : (execOp a.eval o).run G.P w = .ok (.value (.slice (if c = z.toNat then A else A.map (·.add (z.toNat * ti.size))) (len - z.toNat) (c - z.toNat))) w := by
        simp [execOp, ho, hX, h3, Instr.sliceAt, Instr.slice, run_underlying ht, Instr.sliceBounds, Instr.sliceBound, asIntOf, hz0, hz1, ZAX hti, eq_comm]
       obtain ⟨k1, k3⟩ := key z.toNat len (by omega) (Nat.le_refl _) hrun
       exact ZB1 g k1 he k3
      ·exact he.elim
    ·rename_i l
     have hh0 : Lo = none := by cases Lo with | none => rfl | some L => obtain ⟨l, _, e⟩ := hlo L rfl; cases e
     cases Hi with
     | none => cases hhi' rfl
     | some L =>
      obtain ⟨l', hl1, hl2⟩ := hhi L rfl
      cases hl2
      subst hh0
      split at he
      ·rename_i kk z hv2
       have h3 := ZAU g hr hl1 hv2
       obtain ⟨⟨hz0, hz1⟩, he⟩ := he
       have hzc : z <= (c : Int) := by omega
       have hrun : (execOp a.eval o).run G.P w = .ok (.value (.slice (if c = 0 then A else A.map (·.add (0 * ti.size))) (z.toNat - 0) (c - 0))) w := by
        simp [execOp, ho, hX, h3, Instr.sliceAt, Instr.slice, run_underlying ht, Instr.sliceBounds, Instr.sliceBound, asIntOf, hz0, hzc, ZAX hti, eq_comm]
       obtain ⟨k1, k2⟩ := hfirst z.toNat (by omega) hrun
       exact ZB1 g k1 he k2
      ·exact he.elim
    ·rename_i l hq
     cases Lo with
     | none => cases hlo' rfl
     | some L =>
      cases Hi with
      | none => cases hhi' rfl
      | some H =>
       obtain ⟨l', hl1, hl2⟩ := hlo L rfl
       cases hl2
       obtain ⟨l'', hl3, hl4⟩ := hhi H rfl
       cases hl4
       split at he
       ·rename_i kk z hv2
        split at he
        ·rename_i kk2 z2 hv3
         have h3 := ZAU g hr hl1 hv2
         have h4 := ZAU g hr hl3 hv3
         obtain ⟨⟨hz0, hz1, hz2⟩, he⟩ := he
         have hzc : z2 <= (c : Int) := by omega
         have hz20 : 0 <= z2 := by omega
         have hzz : z <= (z2.toNat : Int) := by omega
         have hrun : (execOp a.eval o).run G.P w = .ok (.value (.slice (if c = z.toNat then A else A.map (·.add (z.toNat * ti.size))) (z2.toNat - z.toNat) (c - z.toNat))) w := by
          simp [execOp, ho, hX, h3, h4, Instr.sliceAt, Instr.slice, run_underlying ht, Instr.sliceBounds, Instr.sliceBound, asIntOf, hz0, hz1, Int.toNat_of_nonneg hz20, hzc, hz20, ZAX hti, eq_comm]
         obtain ⟨k1, k3⟩ := key z.toNat z2.toNat (by omega) (by omega) hrun
         exact ZB1 g k1 he k3
        ·exact he.elim
       ·exact he.elim
   ·exact he.elim
  ·exact he.elim
end
end Go.Sx
