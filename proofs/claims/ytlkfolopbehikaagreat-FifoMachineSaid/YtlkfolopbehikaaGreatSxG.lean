/- part -/
import Derived.Test.YtlkfolopbehikaaGreatSxF
set_option linter.unusedSimpArgs false
set_option linter.unusedVariables false
set_option linter.unusedSectionVars false
namespace Go.Sx
open Go
section
variable {G : Ctx} {o : Oper} {a : Act} {r : Regs} {h : Heap} {D : Nat -> Prop} {n : Nat} {ρ : Env} {φ : Nat -> List Nat} {w : World} {K : SV -> Heap -> Nat -> Prop}
variable (g : GM G h D ρ φ w) (hr : RM r D ρ a)
include g hr
omit g hr in
theorem ZHl {P : Program} {T : TypeId} {U V : Value} {b : Bool} {w : World} (hq : ∀ dp, (Op.equalIn (dp + 1) T U V).run P w = .ok b w) : (do pure (Value.bool (<- Op.equal T U V))).run P w = .ok (.bool b) w /\ (do pure (Value.bool (!(<- Op.equal T U V)))).run P w = .ok (.bool (!b)) w := by
 have hq' : (Op.equal T U V).run P w = .ok b w := hq 9999
 constructor <;> simp only [Sem.run_bind, hq', Result.andThen_ok, Sem.run_pure]
omit g hr in
theorem ZNF {P : Program} {T : TypeId} {d : TypeDesc} {c : EqK} {u v : LV} {b : Bool} {w : World} (hd : P.underlying T = some d) (hk : ZEb d = some c) (hck : ∀ k, c ≠ .k k) (hb : eqLV c u v = some b) :
  (binOp .eql T (u.at ρ) (v.at ρ)).run P w = .ok (.bool b) w /\ (binOp .neq T (u.at ρ) (v.at ρ)).run P w = .ok (.bool (!b)) w := by
 unfold eqLV at hb
 split at hb
 all_goals first | (cases hb; done) | skip
 case h_1 => exact absurd rfl (hck _)
 all_goals simp only [Option.some.injEq] at hb
 all_goals subst hb
 case h_3 => exact ⟨rfl, rfl⟩
 all_goals (cases d <;> first | (simp [ZEb] at hk; done) | skip)
 all_goals first
  | (refine ZHl fun dp => ?_; simp [Op.equalIn, run_underlying hd, LV.at]; done)
  | (simp only [LV.at]; split <;> (rename_i hbb; simp only [hbb]; refine ZHl fun dp => ?_; simp [Op.equalIn, run_underlying hd]))
omit g hr in
theorem ZOo {P : Program} {T : TypeId} {op : BinOp} {c : EqK} {u v : LV} {b : Bool} {w : World} {X Y : Operand} (hop : op = .eql \/ op = .neq) (hcn : c = .n -> ZCA X = true \/ ZCA Y = true) (hb : eqLV c u v = some b) :
  (eqGuard op T X Y (u.at ρ) (v.at ρ)).run P w = .ok () w := by
 unfold eqLV at hb
 rcases hop with rfl | rfl
 all_goals
  split at hb
  all_goals first | (cases hb; done) | skip
  case h_9 =>
   rcases hcn rfl with hh | hh
   ·cases X <;> simp [ZCA] at hh; rfl
   ·cases Y <;> simp [ZCA] at hh; cases X <;> rfl
  case h_13 b _ _ =>
   cases b
   ·rcases hcn rfl with hh | hh
    ·cases X <;> simp [ZCA] at hh; rfl
    ·cases Y <;> simp [ZCA] at hh; cases X <;> rfl
   ·rfl
  all_goals rfl
theorem ZSM {t t' : TypeId} {op : BinOp} {neg : Bool} {c : EqK} {X Y : Operand} {x y : O} {d : TypeDesc} (ho : o.op = .binOp op t X Y t') (hop : (neg = false /\ op = .eql) \/ (neg = true /\ op = .neq)) (hx : cO X = some x) (hy : cO Y = some y)
  (hd : G.P.underlying t = some d) (hk : ZEb d = some c) (hcn : c = .n -> ZCA X = true \/ ZCA Y = true) (hck : ∀ k, c ≠ .k k)
  (he : evI (fun _ _ _ _ _ => False) (fun _ _ _ _ _ _ => False) (fun _ _ _ _ _ => False) (.eq c neg x y) r h n K) : Runs G o a h D n ρ w K := by
 simp only [evI] at he
 split at he
 ·rename_i u v hv1 hv2
  have h1 := (ZAF hr hx hv1).1
  have h2 := (ZAF hr hy hv2).1
  simp only [AV.at] at h1 h2
  split at he
  ·rename_i b hb
   refine ZAL g (x := ZAR _) trivial he ?_
   have hgd := ZOo (P := G.P) (T := t) (op := op) (ρ := ρ) (w := w) (X := X) (Y := Y) (hop.imp (·.2) (·.2)) hcn hb
   obtain ⟨hq1, hq2⟩ := ZNF (ρ := ρ) (w := w) hd hk hck hb
   rcases hop with ⟨rfl, rfl⟩ | ⟨rfl, rfl⟩
   ·simp only [execOp, ho, h1, h2, Sem.run_bind, hgd, Result.andThen_ok, hq1, Sem.run_pure]
    rfl
   ·simp only [execOp, ho, h1, h2, Sem.run_bind, hgd, Result.andThen_ok, hq2, Sem.run_pure]
    rfl
  ·exact he.elim
 ·exact he.elim
theorem ZRQ {t e : TypeId} {X I' : Operand} {x i : O} {ti : TypeInfo} (ho : o.op = .indexAddr t X I') (hx : cO X = some x) (hi : cO I' = some i) (ht : G.P.underlying t = some (.slice e)) (hti : G.P.info? e = some ti)
  (he : evI (fun _ _ _ _ _ => False) (fun _ _ _ _ _ _ => False) (fun _ _ _ _ _ => False) (.ixs ti.size x i) r h n K) : Runs G o a h D n ρ w K := by
 simp only [evI] at he
 split at he
 ·rename_i k wd' row len dd kk z hv1 hv2
  obtain ⟨h1, h1'⟩ := ZAF hr hx hv1
  have h2 := ZAU g hr hi hv2
  split at he
  ·rename_i hwd
   have hwd := Nat.eq_of_beq_eq_true hwd
   obtain ⟨⟨hz0, hz1⟩, he⟩ := he
   refine ZAL g (x := .o (.l (.p k ti.size (nadd row z.toNat) 0))) h1'.1 he ?_
   obtain ⟨hk, hn1, hn2⟩ := h1'
   simp only [AV.at, LV.at] at h1
   have hnil : (ρ k).nil = false := by
    cases hh : (ρ k).nil with
    | true => have := hn1 hh; omega
    | false => rfl
   obtain ⟨_, hdd, _⟩ := hn2 hnil
   have hd0 : dof (ρ k).cap row dd = 0 := by rcases hdd with h0 | h0 <;> omega
   rw [hd0] at h1
   subst hwd
   simp only [hnil, Bool.false_eq_true, if_false, Nat.sub_zero] at h1
   simp [execOp, ho, h1, h2, Instr.indexAt, asIntOf, run_underlying ht, hz0, hz1, ZAX hti, ZCB, SV.at, AV.at, LV.at, ZAO, Nat.add_mul, Nat.add_comm]
  ·exact he.elim
 ·unfold ixsX at he
  split at he
  ·rename_i k q wd' row len dd hv1
   split at he
   ·rename_i kk z hv2
    obtain ⟨h1, h1'⟩ := ZAF hr hx hv1
    have h2 := ZAU g hr hi hv2
    split at he
    ·rename_i hwd
     have hwd := Nat.eq_of_beq_eq_true hwd
     obtain ⟨⟨hz0, hz1⟩, he⟩ := he
     refine ZAL g (x := .o (.l (.fp k q ti.size (nadd row z.toNat) 0))) h1'.1 he ?_
     obtain ⟨hk, hn1, hn2⟩ := h1'
     simp only [AV.at, LV.at] at h1
     have hnil : ((ρ k).sub q).loc.nil = false := by
      cases hh : ((ρ k).sub q).loc.nil with
      | true => have := hn1 hh; omega
      | false => rfl
     obtain ⟨_, hdd, _⟩ := hn2 hnil
     have hd0 : dof ((ρ k).sub q).loc.cap row dd = 0 := by rcases hdd with h0 | h0 <;> omega
     rw [hd0] at h1
     subst hwd
     simp only [hnil, Bool.false_eq_true, if_false, Nat.sub_zero] at h1
     simp [execOp, ho, h1, h2, Instr.indexAt, asIntOf, run_underlying ht, hz0, hz1, ZAX hti, ZCB, SV.at, AV.at, LV.at, ZAO, Nat.add_mul, Nat.add_comm]
    ·exact he.elim
   ·exact he.elim
  ·rename_i b off len cp hv1
   split at he
   ·rename_i kk z hv2
    obtain ⟨h1, h1'⟩ := ZAF hr hx hv1
    have h2 := ZAU g hr hi hv2
    obtain ⟨⟨hz0, hz1⟩, he⟩ := he
    refine ZAL g (x := .o (.l (.v (.pointer (some ⟨b, off + z.toNat * ti.size, none⟩))))) trivial he ?_
    simp only [AV.at, LV.at] at h1
    have hadd : (⟨b, off, none⟩ : Addr).add (z.toNat * ti.size) = ⟨b, off + z.toNat * ti.size, none⟩ := by
     unfold Addr.add
     split
     ·rename_i h0; rw [h0]; rfl
     ·rfl
    simp [execOp, ho, h1, h2, Instr.indexAt, asIntOf, run_underlying ht, hz0, hz1, ZAX hti, hadd, SV.at, AV.at, LV.at]
   ·exact he.elim
  ·exact he.elim
end
end Go.Sx
