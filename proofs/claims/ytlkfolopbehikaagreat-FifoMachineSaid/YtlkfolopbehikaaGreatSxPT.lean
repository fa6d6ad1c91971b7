/- part -/
import Derived.Test.YtlkfolopbehikaaGreatSxPL
set_option linter.unusedSimpArgs false
set_option linter.unusedVariables false
namespace Go.Sx
open Go
section
variable {P : Program} {f : FuncId} {fn : Func}
theorem ZIz (hf : P.funcs[f]? = some fn) (hname : (fn.name == "runtime.NumGoroutine") = false) (hb : fn.body.isNone = true) (hn : Extern.findNext fn = none) (k : IntKind)
  (he : Extern.find fn = some (Extern.Atomic.swapT (.int k))) {a : Addr} {x y : Int} {w : World} (hc : w.cell? a = some (.int k x)) (hz : w.frozen? a = false) :
  (callFunc f #[.pointer (some a), .int k y]).run P w = .ok (.value (.int k x)) (w.setCell a (.int k y)) := by
 rw [run_callFunc_extern hf hname hb hn he]
 change (Sem.run P (do
  let a' <- asAddr (.pointer (some a))
  let old <- Extern.Atomic.read (.int k) a'
  store a' (.int k y) .atomic
  pure old) w).andThen _ = _
 simp [Extern.Atomic.read, asAddr, hc, hz, run_store P w a (.int k y) .atomic rfl, Result.andThen]
end
theorem ZI0 {G : Ctx} {fid : FuncId} {xs : Array Operand} {ats : Array TypeId} {q : IntKind} {r : Regs} {h : Heap} {n : Nat} {K : SV -> Heap -> Nat -> Prop} {k wd row col m : Nat} {f : Nat -> List Value} {y : Int} {u x : Value}
  (hk : hget h k = some (.ar wd m f)) (hrow : row < m) (hcol : col < wd) (hc : (f row)[col]? = some x)
  (hrun : ∀ (ρ : Env) (a : Act) (w : World), w.cell? (adr (ρ k) (row * wd + col)) = some x -> w.frozen? (adr (ρ k) (row * wd + col)) = false -> RM r (lt n) ρ a -> (callFunc fid (xs.map a.eval)).run G.P w = .ok (.value u) (w.setCell (adr (ρ k) (row * wd + col)) (.int q y)))
  (hK : stAt h k wd row col 1 (.l (.v (.int q y))) fun h' => K (.o (.l (.v u))) h' n) : EscP G (.call { callee := .value (.func fid), args := xs, argTypes := ats }) r h n K := by
 rw [ZCw]
 intro G' hP o ρ φ a w ho g hr
 obtain ⟨c1, c2⟩ := ZIx g hk hrow hcol
 rw [hc] at c1
 have hrun := hrun ρ a w c1 c2 hr
 obtain ⟨h', w', φ', hK', h5, h6, h7, h8⟩ := ZFq g (v := .l (.v (.int q y))) trivial hK
 have hw : w' = w.setCell (adr (ρ k) (row * wd + col)) (.int q y) := by
  simp only [cellsOf, List.map_cons, List.map_nil, LV.at, storeCells] at h7
  rw [Sem.run_bind, show (adr (ρ k) (row * wd + col)).add 0 = adr (ρ k) (row * wd + col) from rfl, run_store _ _ _ _ _ rfl, c1] at h7
  simp only [c2] at h7
  simpa [Result.andThen] using h7.symm
 subst hw
 refine .of_runs ⟨.o (.l (.v u)), h', n, ρ, φ', _, hK', Nat.le_refl _, Nat.le_succ _, fun _ _ => rfl, h8.mono (fun _ _ => rfl) (ZBf (lt n) n) (fun _ _ _ _ _ => rfl) h8.frm (Nat.le_refl _), trivial, .inl ?_⟩
 rw [<- hP] at hrun
 simp only [execOp, ho, resolve, Act.eval, Deferred.ofValue, Sem.run_bind, Sem.run_pure, Result.andThen_ok, invoke]
 simp only [Array.append_empty, Array.empty_append]
 rw [hrun]
 rfl
theorem ZO6 {G : Ctx} {fid : FuncId} {t t2 : Nat} {ats : Array TypeId} {q : IntKind} {r : Regs} {h : Heap} {n : Nat} {K : SV -> Heap -> Nat -> Prop} {k wd row col m : Nat} {f : Nat -> List Value} {x y : Int}
  (hx : ExtA G.P fid (Extern.Atomic.swapT (.int q))) (hv : rget r t = some (.o (.l (.p k wd row col)))) (hv2 : rget r t2 = some (.o (.l (.v (.int q y))))) (hk : hget h k = some (.ar wd m f)) (hrow : row < m) (hcol : col < wd) (hc : (f row)[col]? = some (.int q x))
  (hK : stAt h k wd row col 1 (.l (.v (.int q y))) fun u => K (sInt q x) u n) : EscP G (.call { callee := .value (.func fid), args := #[.tmp t, .tmp t2], argTypes := ats }) r h n K := by
 refine ZI0 hk hrow hcol hc (fun ρ a w c1 c2 hr => ?_) hK
 obtain ⟨fn, e1, e2, e3, e4, e5⟩ := hx.out
 obtain ⟨h1, _⟩ := ZAF hr (X := .tmp t) (x := .r t) rfl (v := .l (.p k wd row col)) (by simp only [oget, hv])
 obtain ⟨h2, _⟩ := ZAF hr (X := .tmp t2) (x := .r t2) rfl (v := .l (.v (.int q y))) (by simp only [oget, hv2])
 simp only [AV.at, LV.at] at h1 h2
 simp only [List.map_toArray, List.map_cons, List.map_nil]
 rw [h1, h2]
 exact ZIz e1 e2 e3 e4 q e5 c1 c2
theorem ZQD {G : Ctx} {fid : FuncId} {t t2 : Nat} {ats : Array TypeId} {q : IntKind} {r : Regs} {h : Heap} {n : Nat} {K : SV -> Heap -> Nat -> Prop} {k wd row col m : Nat} {f : Nat -> List Value} {x y : Int}
  (hx : ExtA G.P fid (Extern.Atomic.update (Op.intArith .add) q true)) (hv : rget r t = some (.o (.l (.p k wd row col)))) (hv2 : rget r t2 = some (.o (.l (.v (.int q y))))) (hk : hget h k = some (.ar wd m f)) (hrow : row < m) (hcol : col < wd) (hc : (f row)[col]? = some (.int q x))
  (hK : stAt h k wd row col 1 (.l (.v (.int q (q.wrap (x + y))))) fun u => K (sInt q (q.wrap (x + y))) u n) : EscP G (.call { callee := .value (.func fid), args := #[.tmp t, .tmp t2], argTypes := ats }) r h n K := by
 refine ZI0 hk hrow hcol hc (fun ρ a w c1 c2 hr => ?_) hK
 obtain ⟨fn, e1, e2, e3, e4, e5⟩ := hx.out
 obtain ⟨h1, _⟩ := ZAF hr (X := .tmp t) (x := .r t) rfl (v := .l (.p k wd row col)) (by simp only [oget, hv])
 obtain ⟨h2, _⟩ := ZAF hr (X := .tmp t2) (x := .r t2) rfl (v := .l (.v (.int q y))) (by simp only [oget, hv2])
 simp only [AV.at, LV.at] at h1 h2
 simp only [List.map_toArray, List.map_cons, List.map_nil]
 rw [h1, h2]
 exact run_call_add e1 e2 e3 e4 q e5 c1 c2 rfl
theorem ZQE {G : Ctx} {fid : FuncId} {t t2 t3 : Nat} {ats : Array TypeId} {q : IntKind} {r : Regs} {h : Heap} {n : Nat} {K : SV -> Heap -> Nat -> Prop} {k wd row col m : Nat} {f : Nat -> List Value} {x y : Int}
  (hx : ExtA G.P fid (Extern.Atomic.casT (.int q))) (hv : rget r t = some (.o (.l (.p k wd row col)))) (hv2 : rget r t2 = some (.o (.l (.v (.int q x))))) (hv3 : rget r t3 = some (.o (.l (.v (.int q y))))) (hk : hget h k = some (.ar wd m f)) (hrow : row < m) (hcol : col < wd) (hc : (f row)[col]? = some (.int q x))
  (hK : stAt h k wd row col 1 (.l (.v (.int q y))) fun u => K (ZAR true) u n) : EscP G (.call { callee := .value (.func fid), args := #[.tmp t, .tmp t2, .tmp t3], argTypes := ats }) r h n K := by
 refine ZI0 hk hrow hcol hc (fun ρ a w c1 c2 hr => ?_) hK
 obtain ⟨fn, e1, e2, e3, e4, e5⟩ := hx.out
 obtain ⟨h1, _⟩ := ZAF hr (X := .tmp t) (x := .r t) rfl (v := .l (.p k wd row col)) (by simp only [oget, hv])
 obtain ⟨h2, _⟩ := ZAF hr (X := .tmp t2) (x := .r t2) rfl (v := .l (.v (.int q x))) (by simp only [oget, hv2])
 obtain ⟨h3, _⟩ := ZAF hr (X := .tmp t3) (x := .r t3) rfl (v := .l (.v (.int q y))) (by simp only [oget, hv3])
 simp only [AV.at, LV.at] at h1 h2 h3
 simp only [List.map_toArray, List.map_cons, List.map_nil]
 rw [h1, h2, h3]
 exact run_call_cas_hit e1 e2 e3 e4 q e5 c1 c2
theorem ZO7 {G : Ctx} {fid : FuncId} {t t2 t3 : Nat} {ats : Array TypeId} {q : IntKind} {r : Regs} {h : Heap} {n : Nat} {K : SV -> Heap -> Nat -> Prop} {k wd row col m : Nat} {f : Nat -> List Value} {x o0 y : Int}
  (hx : ExtA G.P fid (Extern.Atomic.casT (.int q))) (hv : rget r t = some (.o (.l (.p k wd row col)))) (hv2 : rget r t2 = some (.o (.l (.v (.int q o0))))) (hv3 : rget r t3 = some (.o (.l (.v (.int q y))))) (hk : hget h k = some (.ar wd m f)) (hrow : row < m) (hcol : col < wd) (hc : (f row)[col]? = some (.int q x)) (hne : ¬ x = o0)
  (hK : K (ZAR false) [] n) : EscP G (.call { callee := .value (.func fid), args := #[.tmp t, .tmp t2, .tmp t3], argTypes := ats }) r h n K := by
 rw [ZCw]
 intro G' hP o ρ φ a w ho g hr
 obtain ⟨fn, e1, e2, e3, e4, e5⟩ := hx.out
 rw [<- hP] at e1
 obtain ⟨h1, _⟩ := ZAF hr (X := .tmp t) (x := .r t) rfl (v := .l (.p k wd row col)) (by simp only [oget, hv])
 obtain ⟨h2, _⟩ := ZAF hr (X := .tmp t2) (x := .r t2) rfl (v := .l (.v (.int q o0))) (by simp only [oget, hv2])
 obtain ⟨h3, _⟩ := ZAF hr (X := .tmp t3) (x := .r t3) rfl (v := .l (.v (.int q y))) (by simp only [oget, hv3])
 obtain ⟨c1, c2⟩ := ZIx g hk hrow hcol
 rw [hc] at c1
 have hrun := run_call_cas_miss (w := w) (o := o0) (y := y) e1 e2 e3 e4 q e5 c1 c2 hne
 refine .of_runs (ZAL g (x := ZAR false) trivial hK ?_)
 simp only [AV.at, LV.at] at h1 h2 h3
 simp only [execOp, ho, resolve, Act.eval, Deferred.ofValue, Sem.run_bind, Sem.run_pure, Result.andThen_ok, invoke]
 simp only [Array.append_empty, Array.empty_append, List.map_toArray, List.map_cons, List.map_nil]
 rw [h1, h2, h3, hrun]
 rfl
end Go.Sx
