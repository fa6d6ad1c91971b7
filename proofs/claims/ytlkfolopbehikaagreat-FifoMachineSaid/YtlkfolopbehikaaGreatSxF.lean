/- part -/
import Derived.Test.YtlkfolopbehikaaGreatSxE
set_option linter.unusedSimpArgs false
set_option linter.unusedVariables false
set_option linter.unusedSectionVars false
namespace Go.Sx
open Go
theorem ZBJ {P : Program} {t : TypeId} {z : List Value} (h : ZB0 P t = some z) : ∃ i zv, P.info? t = some i /\ i.zero = some zv /\ zv.cells.size = i.size /\ zv.cells.toList = z := by
 unfold ZB0 at h
 split at h
 ·rename_i i hi
  split at h
  ·rename_i zv hz
   split at h
   ·rename_i hs
    exact ⟨i, zv, hi, hz, hs, by simpa using h⟩
   ·cases h
  ·cases h
 ·cases h
theorem ZBm {P : Program} {t : TypeId} {i : TypeInfo} {zv : Value} (hi : P.info? t = some i) (hz : i.zero = some zv) (w : World) : (zeroValue t).run P w = .ok zv w := by
 simp [zeroValue, typeInfo, program, hi, hz, Sem.run]
theorem ZAX {P : Program} {t : TypeId} {i : TypeInfo} (hi : P.info? t = some i) (w : World) : (sizeOf t).run P w = .ok i.size w := by
 simp [sizeOf, typeInfo, program, hi, Sem.run]
theorem ZA4 {P : Program} {t : TypeId} {d : TypeDesc} (hd : P.underlying t = some d) (w : World) : (isAgg t).run P w = .ok (ZEa d) w := by
 unfold isAgg
 simp only [Sem.run_bind, run_underlying hd, Result.andThen_ok]
 cases d <;> rfl
section
variable {G : Ctx} {o : Oper} {a : Act} {r : Regs} {h : Heap} {D : Nat -> Prop} {n : Nat} {ρ : Env} {φ : Nat -> List Nat} {w : World} {K : SV -> Heap -> Nat -> Prop}
variable (g : GM G h D ρ φ w) (hr : RM r D ρ a)
include g hr
theorem ZP5 {C A B : Operand} {c x y : O} (ho : o.op = .pick C A B) (hc : cO C = some c) (hx : cO A = some x) (hy : cO B = some y)
  (he : evI (fun _ _ _ _ _ => False) (fun _ _ _ _ _ _ => False) (fun _ _ _ _ _ => False) (.pick c x y) r h n K) : Runs G o a h D n ρ w K := by
 simp only [evI] at he
 split at he
 ·rename_i t hv
  obtain ⟨h1, _⟩ := ZAF hr hc hv
  simp only [AV.at, LV.at] at h1
  obtain ⟨ht, hf⟩ := ZIr he
  cases t with
  | true =>
   have he := ht rfl
   split at he
   ·rename_i v hv'
    obtain ⟨h2, h3⟩ := ZAF hr hx hv'
    exact ZAL g (x := .o v) h3 he (by simp [execOp, ho, h1, asBool, h2, SV.at])
   ·exact he.elim
  | false =>
   have he := hf rfl
   split at he
   ·rename_i v hv'
    obtain ⟨h2, h3⟩ := ZAF hr hy hv'
    exact ZAL g (x := .o v) h3 he (by simp [execOp, ho, h1, asBool, h2, SV.at])
   ·exact he.elim
 ·exact he.elim
theorem ZOm {t : TypeId} {z : List Value} (hn : ¬ D n) (ho : o.op = .alloc t) (hz : ZB0 G.P t = some z) (he : K (.o (.l (.p n 0 0 0))) [(n, some (.st (z.map LV.v)))] (n + 1)) : Runs G o a h D n ρ w K := by
 obtain ⟨i, zv, hi, hz1, hz2, hz3⟩ := ZBJ hz
 refine ZFR g hn (.st (z.map LV.v)) { blk := w.heap.size, off := 0, cap := 1, nil := false } (.cells zv.cells t) (.o (.l (.p n 0 0 0))) rfl rfl (fun ρ' hρ => ⟨rfl, ⟨rfl, rfl⟩, rfl, ⟨t, ?_⟩, fun x hx => ?_⟩) (fun ρ' hl => .inr ⟨Nat.le_refl _, Nat.lt_succ_self _⟩) he (fun ρ' hl => ?_)
 ·rw [show ({ blk := w.heap.size, off := 0, cap := 1, nil := false } : Loc).blk = w.heap.size from rfl, ZBg]
  simp only [List.map_map, Function.comp_def, LV.at, List.map_id', <- hz3]
 ·simp at hx; obtain ⟨y, _, rfl⟩ := hx; trivial
 ·simp only [execOp, ho, Instr.alloc, Sem.run_bind, ZBm hi hz1, Result.andThen_ok, ZFp, Sem.run_pure]
  simp [SV.at, AV.at, LV.at, hl, adr]
theorem ZRJ {t : TypeId} {X : Operand} {x : O} (hn : ¬ D n) (ho : o.op = .box t X) (hx : cO X = some x)
  (he : evI (fun _ _ _ _ _ => False) (fun _ _ _ _ _ _ => False) (fun _ _ _ _ _ => False) (.box x) r h n K) : Runs G o a h D n ρ w K := by
 have key : ∀ (v : AV), oget r x = some v -> (v.at ρ).cells.toList = (cellsOf v).map (LV.at ρ) -> K (.o (.l (.p n 0 0 0))) [(n, some (.st (cellsOf v)))] (n + 1) -> Runs G o a h D n ρ w K := by
  intro v hv hcl hK
  obtain ⟨h1, h2⟩ := ZAF hr hx hv
  have hvc : ∀ x ∈ cellsOf v, x.ok ρ D := by
   cases v with
   | l x => intro y hy; simp [cellsOf] at hy; subst hy; exact h2
   | a xs => exact h2
  refine ZFR g hn (.st (cellsOf v)) { blk := w.heap.size, off := 0, cap := 1, nil := false } (.cells (v.at ρ).cells t) (.o (.l (.p n 0 0 0))) rfl rfl (fun ρ' hρ => ⟨rfl, ⟨rfl, rfl⟩, rfl, ⟨t, ?_⟩, fun x hx => ?_⟩) (fun ρ' hl => .inr ⟨Nat.le_refl _, Nat.lt_succ_self _⟩) hK (fun ρ' hl => ?_)
  ·rw [show ({ blk := w.heap.size, off := 0, cap := 1, nil := false } : Loc).blk = w.heap.size from rfl, ZBg, ZEs hρ hvc, <- hcl]
  ·exact LV.ok_mono hρ (fun k hk => .inl hk) (hvc x hx)
  ·simp only [execOp, ho, Instr.box, Sem.run_bind, ZFp, Result.andThen_ok, Sem.run_pure, h1]
   simp [SV.at, AV.at, LV.at, hl, adr]
 simp only [evI] at he
 split at he
 ·rename_i v hv
  split at he
  ·rename_i hone
   exact key (.l v) hv (ZGH _ (.inl (ZCt (xs := [v]) (by simp [ZF0, hone]) v (by simp)))) he
  ·exact he.elim
 ·rename_i vs hv
  exact key (.a vs) hv (ZGH _ (.inr ⟨vs, rfl⟩)) he
 ·exact he.elim
omit g hr in
theorem ZF3 : ∀ {l : List (Nat × List Value)} {b : Nat} {vs : List Value}, ZEK l b = some vs -> (b, vs) ∈ l
 | [], _, _, h => by cases h
 | (g, ws) :: rest, b, vs, h => by
  simp only [ZEK] at h
  split at h
  ·rename_i hb
   cases Nat.eq_of_beq_eq_true hb
   cases h
   exact .head _
  ·exact .tail _ (ZF3 h)
omit hr in
include g in
theorem ZJ5 {b : Nat} {vs : List Value} (hl : ZEK ZNC b = some vs) (j : Nat) : w.cell? ⟨b, j, none⟩ = vs[j]? := by
 obtain ⟨t, h1⟩ := g.glob b vs (ZF3 hl)
 simp [World.cell?, h1]
theorem ZSK {t : TypeId} {X : Operand} {x : O} {d : TypeDesc} (ho : o.op = .load t X) (hx : cO X = some x) (hd : G.P.underlying t = some d) (hag : ZEa d = false)
  (he : evI (fun _ _ _ _ _ => False) (fun _ _ _ _ _ _ => False) (fun _ _ _ _ _ => False) (.ld x) r h n K) : Runs G o a h D n ρ w K := by
 simp only [evI] at he
 split at he
 ·rename_i k wd row col hv
  obtain ⟨h1, h2⟩ := ZAF hr hx hv
  obtain ⟨v, hK, h3, h4⟩ := ZHk g he
  refine ZAL g (x := .o (.l v)) h3 hK ?_
  simp only [AV.at, LV.at] at h1
  simp [execOp, ho, Instr.loadAt, h1, Instr.sureAddr, loadVar, ZA4 hd, hag, h4, SV.at, AV.at]
 ·unfold ldX at he
  split at he
  ·rename_i k q wd row col hv
   obtain ⟨h1, h2⟩ := ZAF hr hx hv
   obtain ⟨v, hK, h3, h4⟩ := ZNE g h2 he
   refine ZAL g (x := .o (.l v)) h3 hK ?_
   simp only [AV.at, LV.at] at h1
   simp [execOp, ho, Instr.loadAt, h1, Instr.sureAddr, loadVar, ZA4 hd, hag, h4, SV.at, AV.at]
  ·rename_i b off hv
   obtain ⟨h1, h2⟩ := ZAF hr hx hv
   split at he
   ·rename_i v hg
    rw [ZAj] at he
    unfold gget at hg
    split at hg
    ·rename_i vs hl
     rw [ZAc] at hg
     have h4 := ZJ5 g hl off
     rw [hg] at h4
     refine ZAL g (x := .o (.l (.v v))) trivial he ?_
     simp only [AV.at, LV.at] at h1
     simp [execOp, ho, Instr.loadAt, h1, Instr.sureAddr, loadVar, ZA4 hd, hag, h4, SV.at, AV.at, LV.at]
    ·cases hg
   ·exact he.elim
  ·exact he.elim
theorem ZRK {t : TypeId} {X : Operand} {x : O} {d : TypeDesc} {i : TypeInfo} (ho : o.op = .load t X) (hx : cO X = some x) (hd : G.P.underlying t = some d) (hag : ZEa d = true) (hi : G.P.info? t = some i)
  (he : evI (fun _ _ _ _ _ => False) (fun _ _ _ _ _ _ => False) (fun _ _ _ _ _ => False) (.lda i.size x) r h n K) : Runs G o a h D n ρ w K := by
 simp only [evI] at he
 split at he
 ·rename_i k wd row col hv
  obtain ⟨h1, h2⟩ := ZAF hr hx hv
  obtain ⟨vs, hK, h3, h4, h5⟩ := ZF2 g he
  refine ZAL g (x := .o (.a vs)) h3 hK ?_
  simp only [AV.at, LV.at] at h1
  have hl : (vs.map (LV.at ρ)).length = i.size := by simpa using h4
  have hld := run_loadCells_list (P := G.P) w (adr (ρ k) (row * wd + col)) (vs.map (LV.at ρ)) h5
  rw [hl] at hld
  simp [execOp, ho, Instr.loadAt, h1, Instr.sureAddr, loadVar, ZA4 hd, hag, ZAX hi, hld, SV.at, AV.at]
 ·unfold ldsX at he
  split at he
  ·rename_i k q wd row col hv
   obtain ⟨h1, h2⟩ := ZAF hr hx hv
   obtain ⟨vs, hK, h3, h4, h5⟩ := ZLO g h2 he
   refine ZAL g (x := .o (.a vs)) h3 hK ?_
   simp only [AV.at, LV.at] at h1
   have hl : (vs.map (LV.at ρ)).length = i.size := by simpa using h4
   have hld := run_loadCells_list (P := G.P) w (adr ((ρ k).sub q).loc (row * wd + col)) (vs.map (LV.at ρ)) h5
   rw [hl] at hld
   simp [execOp, ho, Instr.loadAt, h1, Instr.sureAddr, loadVar, ZA4 hd, hag, ZAX hi, hld, SV.at, AV.at]
  ·rename_i b off hv
   obtain ⟨h1, h2⟩ := ZAF hr hx hv
   split at he
   ·rename_i us hg
    rw [ZBz] at he
    unfold gcut at hg
    split at hg
    ·rename_i vs hl
     simp only [cut] at hg
     cases hb : Nat.beq ((vs.drop off).take i.size).length i.size with
     | false => rw [hb] at hg; cases hg
     | true =>
      rw [hb] at hg
      simp only [cond_true, Option.some.injEq] at hg
      have hlen := Nat.eq_of_beq_eq_true hb
      rw [hg] at hlen
      refine ZAL g (x := .o (.a (us.map LV.v))) (fun y hy => by simp at hy; obtain ⟨z, _, rfl⟩ := hy; trivial) he ?_
      simp only [AV.at, LV.at] at h1
      have hmap : (us.map LV.v).map (LV.at ρ) = us := by
       rw [List.map_map]
       exact List.map_id' us
      have hld := run_loadCells_list (P := G.P) w ⟨b, off, none⟩ us (fun j u hu => by
       have hj : j < i.size := by rw [<- hlen]; exact (List.getElem?_eq_some_iff.1 hu).1
       have hcell := ZJ5 g hl (off + j)
       have e1 : vs[off + j]? = some u := by
        rw [<- hg, List.getElem?_take_of_lt hj, List.getElem?_drop] at hu
        exact hu
       rw [e1] at hcell
       unfold Addr.add
       split
       ·rename_i h0; subst h0; exact hcell
       ·exact hcell)
      rw [hlen] at hld
      simp only [execOp, ho, Instr.loadAt, h1, Instr.sureAddr, loadVar, SV.at, AV.at, hmap]
      simp [ZA4 hd, hag, ZAX hi, hld]
    ·cases hg
   ·exact he.elim
  ·exact he.elim
theorem ZRL {t : TypeId} {X Y : Operand} {x y : O} {i : TypeInfo} (ho : o.op = .store t X Y) (hx : cO X = some x) (hy : cO Y = some y) (hi : G.P.info? t = some i)
  (he : evI (fun _ _ _ _ _ => False) (fun _ _ _ _ _ _ => False) (fun _ _ _ _ _ => False) (.sto i.size x y) r h n K) : Runs G o a h D n ρ w K := by
 simp only [evI] at he
 split at he
 ·rename_i k wd row col v hv hv2
  obtain ⟨h1, h2⟩ := ZAF hr hx hv
  obtain ⟨h3, h4⟩ := ZAF hr hy hv2
  obtain ⟨u, w', φ', hK, h5, h6, h7, h8⟩ := ZFq g h4 he
  simp only [AV.at, LV.at] at h1
  have hsz : (v.at ρ).cells.size = i.size := by rw [<- Array.length_toList, h6]; simpa using h5
  refine ⟨ZBe, u, n, ρ, φ', w', hK, Nat.le_refl _, Nat.le_succ _, fun _ _ => rfl, h8.mono (fun _ _ => rfl) (ZBf D n) (fun _ _ _ _ _ => rfl) h8.frm (Nat.le_refl _), trivial, .inr ⟨?_, rfl⟩⟩
  simp [execOp, ho, Instr.storeAt, h1, h3, Instr.sureAddr, storeVar, ZAX hi, hsz, h6, h7]
 ·exact he.elim
theorem ZRM {X : Operand} {x : O} (ho : o.op = .nilCheck X) (hx : cO X = some x)
  (he : evI (fun _ _ _ _ _ => False) (fun _ _ _ _ _ _ => False) (fun _ _ _ _ _ => False) (.nck x) r h n K) : Runs G o a h D n ρ w K := by
 simp only [evI] at he
 split at he
 ·rename_i k wd row col hv
  obtain ⟨h1, h2⟩ := ZAF hr hx hv
  refine ZAL g (x := .o (.l (.p k wd row col))) h2 he ?_
  simp only [AV.at, LV.at] at h1
  simp [execOp, ho, h1, SV.at, AV.at, LV.at]
 ·rename_i t k hv
  obtain ⟨h1, h2⟩ := ZAF hr hx hv
  refine ZAL g (x := .o (.l (.i t k))) h2 he ?_
  simp only [AV.at, LV.at] at h1
  simp [execOp, ho, h1, SV.at, AV.at, LV.at]
 ·rename_i f ks hv
  obtain ⟨h1, h2⟩ := ZAF hr hx hv
  refine ZAL g (x := .o (.l (.c f ks))) h2 he ?_
  simp only [AV.at, LV.at] at h1
  simp [execOp, ho, h1, SV.at, AV.at, LV.at]
 ·unfold faX at he
  split at he
  ·rename_i k q wd row col hv
   obtain ⟨h1, h2⟩ := ZAF hr hx hv
   refine ZAL g (x := .o (.l (.fp k q wd row (col + 0)))) h2 he ?_
   simp only [AV.at, LV.at] at h1
   simp [execOp, ho, h1, SV.at, AV.at, LV.at]
  ·exact he.elim
theorem ZAU {X : Operand} {x : O} {k : IntKind} {z : Int} (hx : cO X = some x) (hv : oget r x = some (.l (.v (.int k z)))) : a.eval X = .int k z := (ZAF hr hx hv).1
theorem ZOn {t t' : TypeId} {op : BinOp} {k : IntKind} {X Y : Operand} {x y : O} (ho : o.op = .binOp op t X Y t') (hx : cO X = some x) (hy : cO Y = some y)
  (he : evI (fun _ _ _ _ _ => False) (fun _ _ _ _ _ _ => False) (fun _ _ _ _ _ => False) (.ar op k x y) r h n K) : Runs G o a h D n ρ w K := by
 simp only [evI] at he
 split at he
 ·rename_i k1 z1 k2 z2 hv1 hv2
  have h1 := ZAU g hr hx hv1
  have h2 := ZAU g hr hy hv2
  split at he
  ·rename_i e1
   subst e1
   split at he
   ·rename_i e2
    subst e2
    split at he
    all_goals first | exact he.elim | skip
    all_goals
     rw [ZAk] at he
     refine ZAL g (x := sInt _ _) trivial he ?_
     simp [execOp, ho, h1, h2, eqGuard, binOp, Op.intArith, sInt, SV.at, AV.at, LV.at]
   ·exact he.elim
  ·exact he.elim
 ·exact he.elim
theorem ZQT {t t' : TypeId} {op : BinOp} {k : IntKind} {X Y : Operand} {x y : O} (ho : o.op = .binOp op t X Y t') (hx : cO X = some x) (hy : cO Y = some y)
  (he : evI (fun _ _ _ _ _ => False) (fun _ _ _ _ _ _ => False) (fun _ _ _ _ _ => False) (.dv op k x y) r h n K) : Runs G o a h D n ρ w K := by
 simp only [evI] at he
 split at he
 ·rename_i k1 z1 k2 z2 hv1 hv2
  have h1 := ZAU g hr hx hv1
  have h2 := ZAU g hr hy hv2
  split at he
  ·rename_i e1
   subst e1
   split at he
   ·rename_i e2
    subst e2
    split at he
    ·rw [ZAt] at he
     obtain ⟨hne, he⟩ := he
     refine ZAL g (x := sInt _ _) trivial he ?_
     simp [execOp, ho, h1, h2, eqGuard, binOp, Op.intDiv, hne, sInt, SV.at, AV.at, LV.at]
    ·rw [ZAw] at he
     obtain ⟨hne, he⟩ := he
     refine ZAL g (x := sInt _ _) trivial he ?_
     simp [execOp, ho, h1, h2, eqGuard, binOp, Op.intDiv, hne, sInt, SV.at, AV.at, LV.at]
    ·exact he.elim
   ·exact he.elim
  ·exact he.elim
 ·exact he.elim
theorem ZL6 {t t' : TypeId} {op : BinOp} {k : IntKind} {X Y : Operand} {x y : O} (ho : o.op = .binOp op t X Y t') (hx : cO X = some x) (hy : cO Y = some y)
  (he : evI (fun _ _ _ _ _ => False) (fun _ _ _ _ _ _ => False) (fun _ _ _ _ _ => False) (.bt op k x y) r h n K) : Runs G o a h D n ρ w K := by
 simp only [evI] at he
 split at he
 ·rename_i k1 z1 k2 z2 hv1 hv2
  have h1 := ZAU g hr hx hv1
  have h2 := ZAU g hr hy hv2
  split at he
  ·rename_i e1
   subst e1
   split at he
   ·rename_i e2
    subst e2
    split at he
    all_goals first | exact he.elim | skip
    all_goals
     refine ZAL g (x := sInt _ _) trivial he ?_
     simp [execOp, ho, h1, h2, eqGuard, binOp, Op.intBits, sInt, SV.at, AV.at, LV.at, bitZ]
   ·exact he.elim
  ·exact he.elim
 ·exact he.elim
theorem ZQU {t t' : TypeId} {op : BinOp} {k : IntKind} {X Y : Operand} {x y : O} (ho : o.op = .binOp op t X Y t') (hx : cO X = some x) (hy : cO Y = some y)
  (he : evI (fun _ _ _ _ _ => False) (fun _ _ _ _ _ _ => False) (fun _ _ _ _ _ => False) (.sh op k x y) r h n K) : Runs G o a h D n ρ w K := by
 simp only [evI] at he
 split at he
 ·rename_i k1 z1 k2 z2 hv1 hv2
  have h1 := ZAU g hr hx hv1
  have h2 := ZAU g hr hy hv2
  split at he
  ·rename_i e1
   subst e1
   split at he
   ·rw [ZAu] at he
    obtain ⟨hne, he⟩ := he
    refine ZAL g (x := sInt _ _) trivial he ?_
    simp [execOp, ho, h1, h2, eqGuard, binOp, Op.shift, Int.not_lt.2 hne, sInt, SV.at, AV.at, LV.at]
   ·rw [ZAx] at he
    obtain ⟨hne, he⟩ := he
    refine ZAL g (x := sInt _ _) trivial he ?_
    simp [execOp, ho, h1, h2, eqGuard, binOp, Op.shift, Int.not_lt.2 hne, sInt, SV.at, AV.at, LV.at]
   ·exact he.elim
  ·exact he.elim
 ·exact he.elim
theorem ZFr {t t' : TypeId} {op : BinOp} {k : IntKind} {X Y : Operand} {x y : O} (ho : o.op = .binOp op t X Y t') (hx : cO X = some x) (hy : cO Y = some y)
  (he : evI (fun _ _ _ _ _ => False) (fun _ _ _ _ _ _ => False) (fun _ _ _ _ _ => False) (.cmp op k x y) r h n K) : Runs G o a h D n ρ w K := by
 simp only [evI] at he
 split at he
 ·rename_i k1 z1 k2 z2 hv1 hv2
  have h1 := ZAU g hr hx hv1
  have h2 := ZAU g hr hy hv2
  split at he
  ·rename_i e1
   subst e1
   split at he
   ·rename_i e2
    subst e2
    split at he
    ·rename_i b hb
     refine ZAL g (x := ZAR b) trivial he ?_
     cases op <;> simp only [cmpB, Option.some.injEq, reduceCtorEq] at hb
     all_goals
      subst hb
      simp [execOp, ho, h1, h2, eqGuard, binOp, Op.intCmp, ZAR, SV.at, AV.at, LV.at]
     all_goals (first | rfl | (simp [bne, BEq.beq]; done))
    ·exact he.elim
   ·exact he.elim
  ·exact he.elim
 ·exact he.elim
theorem ZRN {t : TypeId} {X : Operand} {x : O} (ho : o.op = .unOp .not t X) (hx : cO X = some x)
  (he : evI (fun _ _ _ _ _ => False) (fun _ _ _ _ _ _ => False) (fun _ _ _ _ _ => False) (.not x) r h n K) : Runs G o a h D n ρ w K := by
 simp only [evI] at he
 split at he
 ·rename_i b hv
  have h1 := (ZAF hr hx hv).1
  refine ZAL g (x := ZAR _) trivial he ?_
  simp only [AV.at, LV.at] at h1
  simp [execOp, ho, h1, Op.unary, ZAR, SV.at, AV.at, LV.at]
 ·exact he.elim
theorem ZRO {t : TypeId} {k : IntKind} {X : Operand} {x : O} (ho : o.op = .unOp .neg t X) (hx : cO X = some x)
  (he : evI (fun _ _ _ _ _ => False) (fun _ _ _ _ _ _ => False) (fun _ _ _ _ _ => False) (.neg k x) r h n K) : Runs G o a h D n ρ w K := by
 simp only [evI] at he
 split at he
 ·rename_i k1 z hv
  have h1 := ZAU g hr hx hv
  split at he
  ·rename_i e1
   subst e1
   rw [ZAk] at he
   refine ZAL g (x := sInt _ _) trivial he ?_
   simp [execOp, ho, h1, Op.unary, Op.intArith, sInt, SV.at, AV.at, LV.at]
  ·exact he.elim
 ·exact he.elim
theorem ZP6 {s d : TypeId} {k0 k : IntKind} {X : Operand} {x : O} (ho : o.op = .convert s d X) (hx : cO X = some x) (hs : G.P.underlying s = some (.int k0)) (hd : G.P.underlying d = some (.int k))
  (he : evI (fun _ _ _ _ _ => False) (fun _ _ _ _ _ _ => False) (fun _ _ _ _ _ => False) (.conv k x) r h n K) : Runs G o a h D n ρ w K := by
 simp only [evI] at he
 split at he
 ·rename_i k1 z hv
  have h1 := ZAU g hr hx hv
  rw [ZAk] at he
  refine ZAL g (x := sInt _ _) trivial he ?_
  simp [execOp, ho, h1, convert, run_underlying hs, run_underlying hd, Conv.intToInt, sInt, SV.at, AV.at, LV.at]
 ·exact he.elim
theorem ZRP {t t' : TypeId} {X Y : Operand} {x y : O} (ho : o.op = .binOp .add t X Y t') (hx : cO X = some x) (hy : cO Y = some y)
  (he : evI (fun _ _ _ _ _ => False) (fun _ _ _ _ _ _ => False) (fun _ _ _ _ _ => False) (.cat x y) r h n K) : Runs G o a h D n ρ w K := by
 simp only [evI] at he
 split at he
 ·rename_i s1 s2 hv1 hv2
  have h1 := (ZAF hr hx hv1).1
  have h2 := (ZAF hr hy hv2).1
  simp only [AV.at, LV.at] at h1 h2
  obtain ⟨hsz, he⟩ := he
  refine ZAL g (x := .o (.l (.v _))) trivial he ?_
  simp [execOp, ho, h1, h2, eqGuard, binOp, Op.stringOp, SV.at, AV.at, LV.at, hsz]
 ·exact he.elim
theorem ZSL {s : TypeId} {j : Nat} {X : Operand} {x : O} {fs : Array Field} {f : Field} {i : TypeInfo} (ho : o.op = .fieldAddr s X j) (hx : cO X = some x) (hs : G.P.underlying s = some (.struct fs)) (hf : fs[j]? = some f)
  (hi : G.P.info? f.type = some i) (hsz : i.size ≠ 0)
  (he : evI (fun _ _ _ _ _ => False) (fun _ _ _ _ _ _ => False) (fun _ _ _ _ _ => False) (.fa f.offset x) r h n K) : Runs G o a h D n ρ w K := by
 simp only [evI] at he
 split at he
 ·rename_i k wd row col hv
  obtain ⟨h1, h2⟩ := ZAF hr hx hv
  refine ZAL g (x := .o (.l (.p k wd row (col + f.offset)))) h2 he ?_
  simp only [AV.at, LV.at] at h1
  simp [execOp, ho, h1, Instr.fieldAt, run_underlying hs, hf, Instr.sureAddr, fieldPlace, ZAX hi, hsz, ZCB, SV.at, AV.at, LV.at, Nat.add_assoc]
 ·unfold faX at he
  split at he
  ·rename_i k q wd row col hv
   obtain ⟨h1, h2⟩ := ZAF hr hx hv
   refine ZAL g (x := .o (.l (.fp k q wd row (col + f.offset)))) h2 he ?_
   simp only [AV.at, LV.at] at h1
   simp [execOp, ho, h1, Instr.fieldAt, run_underlying hs, hf, Instr.sureAddr, fieldPlace, ZAX hi, hsz, ZCB, SV.at, AV.at, LV.at, Nat.add_assoc]
  ·exact he.elim
end
end Go.Sx
