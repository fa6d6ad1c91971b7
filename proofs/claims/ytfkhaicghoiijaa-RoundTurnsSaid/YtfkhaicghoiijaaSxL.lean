/- The symbolic walk, part L: rows built, structs compared; and all operations together. -/
import Derived.Test.YtfkhaicghoiijaaSxK
import Derived.Laws.StructEq
set_option linter.unusedSimpArgs false
set_option linter.unusedVariables false
set_option linter.unusedSectionVars false
namespace Go.Sx
open Go

theorem flat_get (z : List Value) : ∀ (m q : Nat), q < m * z.length → ((List.replicate m z).flatten)[q]? = z[q % z.length]?
  | 0, q, h => by simp at h
  | m + 1, q, h => by
    rw [List.replicate_succ, List.flatten_cons]
    by_cases hq : q < z.length
    · rw [List.getElem?_append_left hq, Nat.mod_eq_of_lt hq]
    · rw [List.getElem?_append_right (by omega), flat_get z m _ (by rw [Nat.add_mul] at h; omega)]
      congr 1
      conv => rhs; rw [show q = (q - z.length) + z.length by omega, Nat.add_mod_right]
theorem flat_length (z : List Value) (m : Nat) : ((List.replicate m z).flatten).length = m * z.length := by simp
theorem made_flat (z : List Value) (m : Nat) (zc : Array Value) (hz : zc.toList = z) : madeCells zc (m * z.length) = ((List.replicate m z).flatten).toArray := by
  apply Array.ext'
  apply List.ext_getElem?
  intro q
  by_cases hq : q < m * z.length
  · rw [List.toList_toArray, flat_get z m q hq]
    have hpos : 0 < z.length := by
      rcases Nat.eq_zero_or_pos z.length with h0 | h0
      · rw [h0, Nat.mul_zero] at hq; omega
      · exact h0
    have hsz : zc.size = z.length := by rw [← hz]; simp
    have hlt : q % z.length < z.length := Nat.mod_lt _ hpos
    simp only [madeCells, Array.getElem?_toList, Array.getElem?_map, Array.getElem?_range, hq, if_true, Option.map_some, hsz]
    have : q % z.length < zc.size := by omega
    subst hz
    rw [getElem!_pos zc _ (by simpa using this)]
    simp [this]
  · rw [List.getElem?_eq_none (by simp [size_madeCells]; omega), List.getElem?_eq_none (by rw [List.toList_toArray, flat_length]; omega)]
theorem run_buildSlice {P : Program} (w : World) {t e : TypeId} {ti : TypeInfo} {zv : Value} {m : Nat} {z : List Value} {parts : Array (Nat × Value)} {cells : Array Value} (ht : P.underlying t = some (.slice e)) (hti : P.info? e = some ti) (hz1 : ti.zero = some zv)
    (hz3 : zv.cells.toList = z) (hzl : z.length = ti.size) (hm : m * ti.size ≤ 16777216) (hf : Instr.fill (fun j => some (j * ti.size, ti.size)) ((List.replicate m z).flatten).toArray parts.toList = some cells) :
    (Instr.buildSlice t m parts).run P w = .ok (.slice (some ⟨w.heap.size, 0, none⟩) m m) (w.alloc (.cells cells e)) := by
  have hmade := made_flat z m zv.cells hz3
  rw [hzl] at hmade
  have n1 : ¬ (16777216 < m * ti.size) := by omega
  by_cases h0 : m * ti.size = 0
  · have hA : ((Array.range (m * ti.size)).map (fun x => (#[] : Array Value)[x % (#[] : Array Value).size]!)) = ((List.replicate m z).flatten).toArray := by
      apply Array.ext'
      have : ((List.replicate m z).flatten) = [] := List.eq_nil_of_length_eq_zero (by rw [flat_length, hzl]; exact h0)
      rw [this, h0]; simp [Array.range_zero']
    unfold Instr.buildSlice
    simp only [Sem.run_bind, run_underlying ht, Result.andThen_ok, run_sizeOf hti, h0, if_true, Nat.not_lt_zero, gt_iff_lt, if_false, Sem.run_pure]
    rw [h0] at hA
    simp only [hA, hf]
    simp [newRow]
  · unfold Instr.buildSlice
    have hmade' : Array.map (fun x => zv.cells[x % zv.cells.size]!) (Array.range (m * ti.size)) = ((List.replicate m z).flatten).toArray := hmade
    simp only [Sem.run_bind, run_underlying ht, Result.andThen_ok, run_sizeOf hti, h0, if_false, n1, gt_iff_lt, Sem.run_pure, run_zeroValue hti hz1, Nat.reducePow, hmade', hf]
    simp [newRow]

section
variable {G : Ctx} {o : Oper} {a : Act} {r : Regs} {h : Heap} {D : Nat → Prop} {n : Nat} {ρ : Env} {φ : Nat → List Nat} {w : World} {K : SV → Heap → Nat → Prop}
variable (g : GM G h D ρ φ w) (hr : RM r D ρ a)
include g hr
theorem snd_bsl (hn : ¬ D n) {t e : TypeId} {m : Nat} {parts : Array (Nat × Operand)} {ps : List (Nat × Nat × O)} {z : List Value} {ti : TypeInfo} (ho : o.op = .buildSlice t m parts) (ht : G.P.underlying t = some (.slice e)) (hti : G.P.info? e = some ti) (hz : zerosOf G.P e = some z)
    (hm : m * ti.size ≤ 16777216) (hzl : z.length = ti.size) (hs0 : ti.size ≠ 0) (hps : cPts (fun j => some (j * ti.size, ti.size)) parts.toList = some ps)
    (he : evI (fun _ _ _ _ _ => False) (fun _ _ _ _ _ _ => False) (fun _ _ _ _ _ => False) (.bsl ti.size m ((List.replicate m z).flatten) ps) r h n K) : Runs G o a h D n ρ w K := by
  obtain ⟨ti', zv, hi', hz1, hz2, hz3⟩ := zerosOf_some hz
  have : ti' = ti := by rw [hti] at hi'; cases hi'; rfl
  subst this
  simp only [evI] at he
  split at he
  · rename_i cs hcs
    split at he
    · rename_i vs hpl hone hlen
      have hlen := Nat.eq_of_beq_eq_true hlen
      obtain ⟨h1, h2, h3⟩ := fill_sound g hr _ parts.toList ps _ cs hps hcs (fun x hx => by
        obtain ⟨y, _, rfl⟩ := List.mem_map.1 hx; trivial)
      have hvs := plain_eq hpl
      have hcv : cs.map (LV.at ρ) = vs := by rw [hvs]; simp [Function.comp_def, LV.at]
      have hz0 : (((List.replicate m z).flatten).map LV.v).map (LV.at ρ) = (List.replicate m z).flatten := by simp [Function.comp_def, LV.at]
      rw [hcv, hz0] at h1
      have hrun := run_buildSlice (P := G.P) w (parts := parts.map fun (i, x) => (i, a.eval x)) ht hti hz1 hz3 hzl hm (by simpa using h1)
      have hvl : vs.length = m * ti'.size := by rw [← hcv]; simpa using hlen
      have hvo : ∀ x ∈ vs, x.oneCell' = true := fun x hx => by
        have := allOne_at (ρ := ρ) hone (.v x) (by rw [hvs]; exact List.mem_map.2 ⟨x, hx, rfl⟩)
        exact this
      have hrow : ∀ i, i < m → (rowsOf ti'.size m vs i).length = ti'.size ∧ (∀ x ∈ rowsOf ti'.size m vs i, x ∈ vs) ∧ ∀ j, j < ti'.size → vs[i * ti'.size + j]? = (rowsOf ti'.size m vs i)[j]? := by
        intro i hi
        unfold rowsOf
        split
        · rename_i hm1
          have hi0 : i = 0 := by omega
          subst hi0
          exact ⟨by rw [hvl, Nat.one_mul], fun x hx => hx, fun j hj => by simp⟩
        · have hle : i * ti'.size + ti'.size ≤ m * ti'.size := by
            have : (i + 1) * ti'.size ≤ m * ti'.size := Nat.mul_le_mul_right _ hi
            rw [Nat.add_mul] at this; omega
          exact ⟨by simp; omega, fun x hx => List.mem_of_mem_drop (List.mem_of_mem_take hx), fun j hj => by simp [hj]⟩
      have hmc : m ≤ maxLen ∨ ti'.size = 0 := by
        rcases Nat.eq_zero_or_pos ti'.size with h0 | h0
        · exact .inr h0
        · left
          have : m ≤ m * ti'.size := Nat.le_mul_of_pos_right _ h0
          unfold maxLen; omega
      by_cases hmm : m ≤ maxLen
      · refine runs_new g hn (.ar ti'.size m (rowsOf ti'.size m vs)) ⟨w.heap.size, 0, m, false⟩ (.cells vs.toArray e) (.o (.l (.s n ti'.size 0 m 0))) rfl rfl
          (fun ρ' hρ => .inr ⟨rfl, rfl, rfl, Nat.le_refl _, hmm, _, e, heap_push_at w _, by simpa using hvl, fun i hi => ⟨(hrow i hi).1, fun x hx => hvo x ((hrow i hi).2.1 x hx), fun j hj => ?_⟩⟩)
          (fun ρ' hl => ⟨.inr ⟨Nat.le_refl _, Nat.lt_succ_self _⟩, fun hf => (by rw [hl] at hf; cases hf), fun _ => ⟨by rw [hl]; simp, .inl rfl, Nat.le_refl _⟩⟩) he (fun ρ' hl => ?_)
        · rw [← (hrow i hi).2.2 j hj]; simp
        · simp only [execOp, ho, Sem.run_bind, hrun, Result.andThen_ok, Sem.run_pure]
          simp [SV.at, AV.at, LV.at, hl, adr]
      · exfalso
        rcases hmc with h0 | h0
        · exact hmm h0
        · exact hs0 h0
    · exact he.elim
  · exact he.elim
omit g hr in
theorem eqLV_field {P : Program} {T : TypeId} {d : TypeDesc} {c : EqK} {u v : LV} {b : Bool} {dp : Nat} (hd : P.underlying T = some d) (hc : (d = .bool ∧ c = .b) ∨ ∃ k, d = .int k ∧ c = .k k) (hb : eqLV c u v = some b) :
    (Op.equalIn (dp + 1) T (u.at ρ) (v.at ρ)).run P w = .ok b w := by
  rcases hc with ⟨rfl, rfl⟩ | ⟨k, rfl, rfl⟩
  · unfold eqLV at hb
    split at hb
    all_goals first | (cases hb; done) | skip
    all_goals first | contradiction | skip
    simp only [Option.some.injEq] at hb
    subst hb
    simp [Op.equalIn, run_underlying hd, LV.at]
  · unfold eqLV at hb
    split at hb
    all_goals first | (cases hb; done) | skip
    all_goals first | contradiction | skip
    split at hb
    · rename_i e1
      split at hb
      · rename_i e2
        simp only [Option.some.injEq] at hb
        subst hb e1 e2
        simp [Op.equalIn, run_underlying hd, LV.at]
        rfl
      · cases hb
    · cases hb
omit g hr in
theorem eqf_sound {P : Program} {dp : Nat} {XS YS : Array Value} : ∀ (fs : List Field) (m : Nat) (cs : List EqK) (us vs : List LV) (b : Bool), eqFields P m fs = some cs → eqAll cs us vs = some b →
    XS.toList.drop m = us.map (LV.at ρ) → YS.toList.drop m = vs.map (LV.at ρ) → (Op.eqFields (dp + 1) XS YS fs).run P w = .ok b w
  | [], m, cs, us, vs, b, hc, he, hX, hY => by
    simp [eqFields] at hc; subst hc
    cases us <;> cases vs <;> simp [eqAll] at he
    subst he
    simp [Op.eqFields]
  | f :: fs, m, cs, us, vs, b, hc, he, hX, hY => by
    simp only [eqFields] at hc
    split at hc
    · rename_i hoff
      obtain ⟨hoff, hname⟩ := hoff
      have fin : ∀ (c : EqK) (cs' : List EqK) (d : TypeDesc), P.underlying f.type = some d → ((d = .bool ∧ c = .b) ∨ ∃ k, d = .int k ∧ c = .k k) → eqFields P (m + 1) fs = some cs' → cs = c :: cs' → (Op.eqFields (dp + 1) XS YS (f :: fs)).run P w = .ok b w := by
        intro c cs' d hd hcd hcs' hcs
        subst hcs
        have hag : isAggD d = false := by rcases hcd with ⟨rfl, _⟩ | ⟨k, rfl, _⟩ <;> rfl
        have step : ∀ (u v : LV) (us' vs' : List LV) (b1 b2 : Bool), us = u :: us' → vs = v :: vs' → eqLV c u v = some b1 → eqAll cs' us' vs' = some b2 → (Op.eqFields (dp + 1) XS YS (f :: fs)).run P w = .ok (b1 && b2) w := by
          intro u v us' vs' b1 b2 hu hv h1 h2
          subst hu hv
          have hx0 : XS[m]? = some (u.at ρ) := by
            have := congrArg (fun l => l[0]?) hX
            simpa using this
          have hy0 : YS[m]? = some (v.at ρ) := by
            have := congrArg (fun l => l[0]?) hY
            simpa using this
          have hX' : XS.toList.drop (m + 1) = us'.map (LV.at ρ) := by
            have := congrArg (fun l => l.drop 1) hX
            simpa using this
          have hY' : YS.toList.drop (m + 1) = vs'.map (LV.at ρ) := by
            have := congrArg (fun l => l.drop 1) hY
            simpa using this
          have ih := eqf_sound (dp := dp) fs (m + 1) cs' us' vs' b2 hcs' h2 hX' hY'
          have hp1 : (part f.type XS f.offset).run P w = .ok (u.at ρ) w := by simp [part, run_isAgg hd, hag, hoff, hx0]
          have hp2 : (part f.type YS f.offset).run P w = .ok (v.at ρ) w := by simp [part, run_isAgg hd, hag, hoff, hy0]
          have hq := eqLV_field (ρ := ρ) (w := w) (dp := dp) hd hcd h1
          rw [Op.eqFields]
          simp only [if_pos hname, Sem.run_bind, hp1, hp2, hq, Result.andThen_ok]
          cases b1
          · simp
          · simpa using ih
        cases us with
        | nil => cases cs' <;> simp [eqAll] at he
        | cons u us' =>
          cases vs with
          | nil => cases cs' <;> simp [eqAll] at he
          | cons v vs' =>
            by_cases hlast : cs' = [] ∧ us' = [] ∧ vs' = []
            · obtain ⟨rfl, rfl, rfl⟩ := hlast
              simp only [eqAll] at he
              have := step u v [] [] b true rfl rfl he (by simp [eqAll])
              simpa using this
            · have he' : ∃ b1 b2, eqLV c u v = some b1 ∧ eqAll cs' us' vs' = some b2 ∧ b = (b1 && b2) := by
                cases cs' with
                | nil => cases us' <;> cases vs' <;> simp_all [eqAll]
                | cons c' cs'' =>
                  simp only [eqAll] at he
                  split at he
                  · rename_i b1 b2 h1 h2
                    simp only [Option.some.injEq] at he
                    exact ⟨b1, b2, h1, h2, he.symm⟩
                  · cases he
              obtain ⟨b1, b2, h1, h2, rfl⟩ := he'
              exact step u v us' vs' b1 b2 rfl rfl h1 h2
      split at hc
      · rename_i cs' hd hcs'
        simp only [Option.some.injEq] at hc
        exact fin .b cs' .bool hd (.inl ⟨rfl, rfl⟩) hcs' hc.symm
      · rename_i k cs' hd hcs'
        simp only [Option.some.injEq] at hc
        exact fin (.k k) cs' (.int k) hd (.inr ⟨k, rfl, rfl⟩) hcs' hc.symm
      · cases hc
    · cases hc
theorem snd_eqa {t t' : TypeId} {op : BinOp} {neg : Bool} {cs : List EqK} {X Y : Operand} {x y : O} {fs : Array Field} (ho : o.op = .binOp op t X Y t') (hop : (neg = false ∧ op = .eql) ∨ (neg = true ∧ op = .neq)) (hx : cO X = some x) (hy : cO Y = some y)
    (hd : G.P.underlying t = some (.struct fs)) (hcs : eqFields G.P 0 fs.toList = some cs) (hst : G.P.stoodInHeld t = false) (hgd : G.P.eqGuardType G.P.depth t = false)
    (he : evI (fun _ _ _ _ _ => False) (fun _ _ _ _ _ _ => False) (fun _ _ _ _ _ => False) (.eqa cs neg x y) r h n K) : Runs G o a h D n ρ w K := by
  simp only [evI] at he
  split at he
  · rename_i us vs hv1 hv2
    have h1 := (oget_eval hr hx hv1).1
    have h2 := (oget_eval hr hy hv2).1
    simp only [AV.at] at h1 h2
    split at he
    · rename_i b hb
      refine runs_pure g (x := sBool _) trivial he ?_
      have hq : ∀ dp, (Op.equalIn (dp + 2) t (.agg (us.map (LV.at ρ)).toArray) (.agg (vs.map (LV.at ρ)).toArray)).run G.P w = .ok b w := by
        intro dp
        have hf : G.P.fieldsOf t = fs := by simp [Program.fieldsOf, hd]
        rw [run_equalIn_struct (P := G.P) w (dp + 1) t _ _ (by rw [hf]; exact hd) hst, hf]
        exact eqf_sound (ρ := ρ) (dp := dp) fs.toList 0 cs us vs b hcs hb (by simp) (by simp)
      have hq' : (Op.equal t (.agg (us.map (LV.at ρ)).toArray) (.agg (vs.map (LV.at ρ)).toArray)).run G.P w = .ok b w := hq 9998
      have hgd' : ∀ op, (eqGuard op t X Y (.agg (us.map (LV.at ρ)).toArray) (.agg (vs.map (LV.at ρ)).toArray)).run G.P w = .ok () w := fun op => run_eqGuard_agg w op t X Y _ _ hgd
      rcases hop with ⟨rfl, rfl⟩ | ⟨rfl, rfl⟩
      · have hb2 : binOp .eql t (.agg (us.map (LV.at ρ)).toArray) (.agg (vs.map (LV.at ρ)).toArray) = (do pure (Value.bool (← Op.equal t (.agg (us.map (LV.at ρ)).toArray) (.agg (vs.map (LV.at ρ)).toArray)))) := rfl
        simp only [execOp, ho, h1, h2, Sem.run_bind, hgd', Result.andThen_ok, hb2, hq', Sem.run_pure]
        rfl
      · have hb2 : binOp .neq t (.agg (us.map (LV.at ρ)).toArray) (.agg (vs.map (LV.at ρ)).toArray) = (do pure (Value.bool (!(← Op.equal t (.agg (us.map (LV.at ρ)).toArray) (.agg (vs.map (LV.at ρ)).toArray))))) := rfl
        simp only [execOp, ho, h1, h2, Sem.run_bind, hgd', Result.andThen_ok, hb2, hq', Sem.run_pure]
        rfl
    · exact he.elim
  · exact he.elim
end
end Go.Sx
