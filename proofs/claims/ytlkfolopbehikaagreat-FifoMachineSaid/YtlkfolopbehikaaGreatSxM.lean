/- part -/
import Derived.Test.YtlkfolopbehikaaGreatSxL2
set_option linter.unusedSimpArgs false
set_option linter.unusedVariables false
set_option linter.unusedSectionVars false
namespace Go.Sx
open Go
def lt (n : Nat) : Nat -> Prop := fun k => k < n
theorem ZRj {n n' : Nat} (h : n <= n') : grow (lt n) n n' = lt n' := by
 funext k
 simp only [grow, lt]
 exact propext ⟨fun hk => by omega, fun hk => by omega⟩
def ZFT (G : Ctx) (h : Heap) (n : Nat) (ρ : Env) (K : SV -> Heap -> Nat -> Prop) : Ending -> World -> Prop := fun e w' =>
 ∃ x u n' ρ' φ', e = .returned (x.at ρ') /\ K x u n' /\ n <= n' /\ (∀ k, lt n k -> ρ' k = ρ k) /\ GM G (u ++ h) (lt n') ρ' φ' w' /\ x.ok ρ' (lt n')
structure CallP (G : Ctx) (f : FuncId) (xs : List AV) (h : Heap) (n : Nat) (K : SV -> Heap -> Nat -> Prop) : Prop where
 out :   ZCS G.P f = true /\ ∀ G' : Ctx, G'.P = G.P -> ∀ ρ φ w, GM G' h (lt n) ρ φ w -> (∀ x ∈ xs, x.ok ρ (lt n)) -> Calls G.P f (xs.map (AV.at ρ)).toArray w (ZFT G' h n ρ K)
theorem ZCd (G : Ctx) (f : FuncId) (xs : List AV) (h : Heap) (n : Nat) (K : SV -> Heap -> Nat -> Prop) : CallP G f xs h n K = (ZCS G.P f = true /\ ∀ G' : Ctx, G'.P = G.P -> ∀ ρ φ w, GM G' h (lt n) ρ φ w -> (∀ x ∈ xs, x.ok ρ (lt n)) -> Calls G.P f (xs.map (AV.at ρ)).toArray w (ZFT G' h n ρ K)) := propext ⟨fun h => h.out, fun h => ⟨h⟩⟩
structure InvP (G : Ctx) (recv : AV) (name : String) (xs : List AV) (h : Heap) (n : Nat) (K : SV -> Heap -> Nat -> Prop) : Prop where
 out :   ∀ G' : Ctx, G'.P = G.P -> ∀ ρ φ w, GM G' h (lt n) ρ φ w -> recv.ok ρ (lt n) -> (∀ x ∈ xs, x.ok ρ (lt n)) ->
   ∃ f args, (callMethod (recv.at ρ) name (xs.map (AV.at ρ)).toArray).run G.P w = .ok (.enter f args) w /\ Calls G.P f args w (ZFT G' h n ρ K)
theorem ZD9 (G : Ctx) (recv : AV) (name : String) (xs : List AV) (h : Heap) (n : Nat) (K : SV -> Heap -> Nat -> Prop) : InvP G recv name xs h n K = (∀ G' : Ctx, G'.P = G.P -> ∀ ρ φ w, GM G' h (lt n) ρ φ w -> recv.ok ρ (lt n) -> (∀ x ∈ xs, x.ok ρ (lt n)) ->
  ∃ f args, (callMethod (recv.at ρ) name (xs.map (AV.at ρ)).toArray).run G.P w = .ok (.enter f args) w /\ Calls G.P f args w (ZFT G' h n ρ K)) := propext ⟨fun h => h.out, fun h => ⟨h⟩⟩
def OpWp (G : Ctx) (o : Oper) (a : Act) (h : Heap) (n : Nat) (ρ : Env) (w : World) (K : SV -> Heap -> Nat -> Prop) : Prop :=
 ∀ (next : Act -> World -> Prop) (Q : Exit -> Act -> World -> Prop),
  (∀ x u n' ρ' φ' w', K x u n' -> n <= n' -> (∀ k, lt n k -> ρ' k = ρ k) -> GM G (u ++ h) (lt n') ρ' φ' w' -> x.ok ρ' (lt n') -> next (a.put o.dst (x.at ρ')) w') -> o.wp G.P a w next Q
structure EscP (G : Ctx) (op : Op) (r : Regs) (h : Heap) (n : Nat) (K : SV -> Heap -> Nat -> Prop) : Prop where
 out :   ∀ G' : Ctx, G'.P = G.P -> ∀ (o : Oper) ρ φ a w, o.op = op -> GM G' h (lt n) ρ φ w -> RM r (lt n) ρ a -> OpWp G' o a h n ρ w K
theorem ZCw (G : Ctx) (op : Op) (r : Regs) (h : Heap) (n : Nat) (K : SV -> Heap -> Nat -> Prop) : EscP G op r h n K = (∀ G' : Ctx, G'.P = G.P -> ∀ (o : Oper) ρ φ a w, o.op = op -> GM G' h (lt n) ρ φ w -> RM r (lt n) ρ a -> OpWp G' o a h n ρ w K) := propext ⟨fun h => h.out, fun h => ⟨h⟩⟩
def Sat (G : Ctx) (r : Regs) (h : Heap) (n : Nat) (a : Act) (w : World) : Prop :=
 ∃ ρ φ, GM G h (lt n) ρ φ w /\ RM r (lt n) ρ a /\ a.tmps.size = G.N /\ a.defers = []
def QK (G : Ctx) (K : X -> Regs -> Heap -> Nat -> Prop) : Exit -> Act -> World -> Prop
 | .normal, a, w => ∃ r h n, K .nrm r h n /\ Sat G r h n a w
 | .exit id, a, w => ∃ r h n, K (.ex id) r h n /\ Sat G r h n a w
 | .ret, a, w => ∃ r h n, K .ret r h n /\ Sat G r h n a w
 | _, _, _ => False
structure LoopP (G : Ctx) (b : IC) (r : Regs) (h : Heap) (n : Nat) (K : X -> Regs -> Heap -> Nat -> Prop) : Prop where
 out :   match b with
  | .loop b' => ∀ c, cC G.P G.N c = some b' -> ∀ a w, Sat G r h n a w -> c.wp G.P (QK G K) a w
  | b => ∀ c, cC G.P G.N c = some b -> ∀ a w, Sat G r h n a w -> (Code.loop c).wp G.P (QK G K) a w
theorem ZFU (G : Ctx) (b : IC) (r : Regs) (h : Heap) (n : Nat) (K : X -> Regs -> Heap -> Nat -> Prop) : LoopP G b r h n K = (match b with
 | .loop b' => ∀ c, cC G.P G.N c = some b' -> ∀ a w, Sat G r h n a w -> c.wp G.P (QK G K) a w
 | b => ∀ c, cC G.P G.N c = some b -> ∀ a w, Sat G r h n a w -> (Code.loop c).wp G.P (QK G K) a w) := propext ⟨fun h => h.out, fun h => ⟨h⟩⟩
structure DrawP (G : Ctx) (is : List IOp) (after : List (List Nat)) (r : Regs) (h : Heap) (n : Nat) (K : X -> Regs -> Heap -> Nat -> Prop) : Prop where
 out :   ∀ id ops, cOps G.P G.N ops ops.toList = some is -> ops.toList.map ZCI = after -> ∀ a w, Sat G r h n a w -> (Code.region id ops true).wp G.P (QK G K) a w
theorem ZGK (G : Ctx) (is : List IOp) (after : List (List Nat)) (r : Regs) (h : Heap) (n : Nat) (K : X -> Regs -> Heap -> Nat -> Prop) : DrawP G is after r h n K = (∀ id ops, cOps G.P G.N ops ops.toList = some is -> ops.toList.map ZCI = after -> ∀ a w, Sat G r h n a w -> (Code.region id ops true).wp G.P (QK G K) a w) := propext ⟨fun h => h.out, fun h => ⟨h⟩⟩
section
variable {G : Ctx} {o : Oper} {a : Act} {r : Regs} {h : Heap} {n : Nat} {ρ : Env} {φ : Nat -> List Nat} {w : World} {K : SV -> Heap -> Nat -> Prop}
theorem OpWp.of_runs (hr : Runs G o a h (lt n) n ρ w K) : OpWp G o a h n ρ w K := by
 intro next Q hn
 obtain ⟨x, u, n', ρ', φ', w', hK, h1, _, h2, h3, h4, h5⟩ := hr
 rw [ZRj h1] at h3 h4
 have hnx := hn x u n' ρ' φ' w' hK h1 h2 h3 h4
 unfold Oper.wp
 rcases h5 with h5 | ⟨h5, rfl⟩
 ·rw [h5]; exact hnx
 ·rw [h5]; exact hnx
theorem ZEA {P : Program} {f : FuncId} (hb : ZCS P f = true) (args : Array Value) (w : World) : (callFunc f args).run P w = .ok (.enter f args) w := by
 unfold ZCS at hb
 split at hb
 ·rename_i fn hfn
  simp only [Bool.and_eq_true, Bool.not_eq_true'] at hb
  obtain ⟨hb1, hb2⟩ := hb
  unfold callFunc
  have hbn : fn.body.isNone = false := by cases hq : fn.body <;> simp_all
  simp only [program, Sem.run_bind, Sem.run, Result.andThen_ok, hfn, hb2, Bool.false_eq_true, if_false, hbn, Sem.run_pure]
 ·cases hb
theorem OpWp.of_call {f : FuncId} {args : Array Value} (hrun : (execOp a.eval o).run G.P w = .ok (.enter f args) w) (hc : Calls G.P f args w (ZFT G h n ρ K)) : OpWp G o a h n ρ w K := by
 intro next Q hn
 unfold Oper.wp
 rw [hrun]
 simp only [Oper.upon_enter]
 refine hc.mono fun e w' ⟨x, u, n', ρ', φ', he, hK, h1, h2, h3, h4⟩ => ?_
 subst he
 exact hn x u n' ρ' φ' w' hK h1 h2 h3 h4
variable (g : GM G h (lt n) ρ φ w) (hr : RM r (lt n) ρ a)
include g hr
theorem ZP9 {f : FuncId} {args : Array Operand} {ats : Array TypeId} {xs : List O} (ho : o.op = .call { callee := .value (.func f), args := args, argTypes := ats }) (hx : cOs args.toList = some xs) (hb : ZCS G.P f = true)
  (he : evI (CallP G) (InvP G) (EscP G) (.call f xs) r h n K) : OpWp G o a h n ρ w K := by
 simp only [evI] at he
 split at he
 ·rename_i vs hv
  obtain ⟨h1, h2⟩ := ZDc hr hx hv
  simp only [ZFP, ZCL, ZBP] at he
  rw [ZCd] at he
  have hc := he.2 G rfl ρ φ w g h2
  refine OpWp.of_call ?_ hc
  have e1 : args.map a.eval = (vs.map (AV.at ρ)).toArray := by apply Array.ext'; simpa using h1
  simp only [execOp, ho, resolve, e1, Act.eval, Deferred.ofValue, Sem.run_bind, Sem.run_pure, Result.andThen_ok, invoke]
  simp only [Array.append_empty, Array.empty_append, ZEA hb]
 ·exact he.elim
theorem ZOy {F : Operand} {args : Array Operand} {ats : Array TypeId} {fv : O} {xs : List O} (ho : o.op = .call { callee := .value F, args := args, argTypes := ats }) (hf : cO F = some fv) (hx : cOs args.toList = some xs)
  (he : evI (CallP G) (InvP G) (EscP G) (.callv fv xs) r h n K) : OpWp G o a h n ρ w K := by
 simp only [evI] at he
 split at he
 ·rename_i f ks vs hv1 hv
  obtain ⟨h1, h2⟩ := ZDc hr hx hv
  obtain ⟨h3, h4⟩ := ZAF hr hf hv1
  simp only [AV.at, LV.at] at h3
  simp only [ZFP, ZCL, ZBP] at he
  rw [ZCd] at he
  have hc := he.2 G rfl ρ φ w g (fun x hx => by
   rcases List.mem_append.1 hx with hx | hx
   ·exact h2 x hx
   ·obtain ⟨k, hk, rfl⟩ := List.mem_map.1 hx
    exact h4 k hk)
  refine OpWp.of_call ?_ hc
  have e1 : args.map a.eval = (vs.map (AV.at ρ)).toArray := by apply Array.ext'; simpa using h1
  have e2 : ((vs ++ ks.map fun k => AV.l (.p k 0 0 0)).map (AV.at ρ)).toArray = (vs.map (AV.at ρ)).toArray ++ (ks.map fun k => Value.pointer (some (adr (ρ k) 0))).toArray := by
   apply Array.ext'; simp [Function.comp_def, AV.at, LV.at]
  simp only [execOp, ho, resolve, e1, h3, Deferred.ofValue, Sem.run_bind, Sem.run_pure, Result.andThen_ok, invoke, e2]
  simp only [Array.empty_append, ZEA he.1]
 ·rename_i f vs hv1 hv
  obtain ⟨h1, h2⟩ := ZDc hr hx hv
  obtain ⟨h3, h4⟩ := ZAF hr hf hv1
  simp only [AV.at, LV.at] at h3
  simp only [ZFP, ZCL, ZBP] at he
  rw [ZCd] at he
  have hc := he.2 G rfl ρ φ w g h2
  refine OpWp.of_call ?_ hc
  have e1 : args.map a.eval = (vs.map (AV.at ρ)).toArray := by apply Array.ext'; simpa using h1
  simp only [execOp, ho, resolve, e1, h3, Deferred.ofValue, Sem.run_bind, Sem.run_pure, Result.andThen_ok, invoke]
  simp only [Array.empty_append, Array.append_empty, ZEA he.1]
 ·exact he.elim
theorem ZRk {R : Operand} {name : String} {args : Array Operand} {ats : Array TypeId} {rv : O} {xs : List O} (ho : o.op = .call { callee := .invoke R name, args := args, argTypes := ats }) (hf : cO R = some rv) (hx : cOs args.toList = some xs)
  (he : evI (CallP G) (InvP G) (EscP G) (.inv rv name xs) r h n K) : OpWp G o a h n ρ w K := by
 simp only [evI] at he
 split at he
 ·rename_i x vs hv1 hv
  obtain ⟨h1, h2⟩ := ZDc hr hx hv
  obtain ⟨h3, h4⟩ := ZAF hr hf hv1
  simp only [ZFP, ZCL, ZBP] at he
  rw [ZD9] at he
  obtain ⟨f, as, hc1, hc2⟩ := he G rfl ρ φ w g h4 h2
  refine OpWp.of_call ?_ hc2
  have e1 : args.map a.eval = (vs.map (AV.at ρ)).toArray := by apply Array.ext'; simpa using h1
  have e2 : (#[x.at ρ] ++ (vs.map (AV.at ρ)).toArray)[0]? = some (x.at ρ) := by simp
  have e3 : (#[x.at ρ] ++ (vs.map (AV.at ρ)).toArray).extract 1 (#[x.at ρ] ++ (vs.map (AV.at ρ)).toArray).size = (vs.map (AV.at ρ)).toArray := by
   apply Array.ext'; simp [List.take_of_length_le]
  simp only [execOp, ho, resolve, e1, h3, Sem.run_bind, Sem.run_pure, Result.andThen_ok, invoke, e2, e3, hc1]
 ·exact he.elim
end
end Go.Sx
