/- part -/
import Derived.Test.YtlkfolopbehikaaGreatSxPK
import Derived.Laws.LoneSync
set_option linter.unusedSimpArgs false
set_option linter.unusedVariables false
namespace Go.Sx
open Go
structure ExtA (P : Program) (f : FuncId) (e : Array Value -> Sem Value) : Prop where
 out : ∃ fn, P.funcs[f]? = some fn /\ (fn.name == "runtime.NumGoroutine") = false /\ fn.body.isNone = true /\ Extern.findNext fn = none /\ Extern.find fn = some e
section
variable {G : Ctx} {h : Heap} {D : Nat -> Prop} {ρ : Env} {φ : Nat -> List Nat} {w : World}
theorem ZIx (g : GM G h D ρ φ w) {k wd row col m : Nat} {f : Nat -> List Value} (hk : hget h k = some (.ar wd m f)) (hrow : row < m) (hcol : col < wd) :
  w.cell? (adr (ρ k) (row * wd + col)) = (f row)[col]? /\ w.frozen? (adr (ρ k) (row * wd + col)) = false := by
 rcases g.hm.at_ k _ hk with ⟨_, h0, _⟩ | ⟨h1, h2, h3, h4, h5, cs, t, h6, h7, h8⟩
 ·omega
 ·obtain ⟨q1, q2, q3⟩ := h8 row hrow
  have ha : adr (ρ k) (row * wd + col) = ⟨(ρ k).blk, row * wd + col, none⟩ := by simp [adr, h2]
  rw [ha]
  refine ⟨?_, ?_⟩
  ·simp [World.cell?, h6, q3 col hcol]
  ·simp [World.frozen?, h6]
end
theorem ZO1 {G : Ctx} {fid : FuncId} {t : Nat} {ats : Array TypeId} {q : IntKind} {r : Regs} {h : Heap} {n : Nat} {K : SV -> Heap -> Nat -> Prop} {k wd row col m : Nat} {f : Nat -> List Value} {x : Int}
  (hx : ExtA G.P fid (Extern.Atomic.loadT (.int q))) (hv : rget r t = some (.o (.l (.p k wd row col)))) (hk : hget h k = some (.ar wd m f)) (hrow : row < m) (hcol : col < wd) (hc : (f row)[col]? = some (.int q x))
  (hK : K (sInt q x) [] n) : EscP G (.call { callee := .value (.func fid), args := #[.tmp t], argTypes := ats }) r h n K := by
 rw [ZCw]
 intro G' hP o ρ φ a w ho g hr
 obtain ⟨fn, e1, e2, e3, e4, e5⟩ := hx.out
 rw [<- hP] at e1
 obtain ⟨h1, _⟩ := ZAF hr (X := .tmp t) (x := .r t) rfl (v := .l (.p k wd row col)) (by simp only [oget, hv])
 obtain ⟨c1, c2⟩ := ZIx g hk hrow hcol
 rw [hc] at c1
 have hrun := run_call_load (w := w) e1 e2 e3 e4 q e5 c1
 refine .of_runs (ZAL g (x := sInt q x) trivial hK ?_)
 simp only [AV.at, LV.at] at h1
 simp only [execOp, ho, resolve, Act.eval, Deferred.ofValue, Sem.run_bind, Sem.run_pure, Result.andThen_ok, invoke]
 simp only [Array.append_empty, Array.empty_append, List.map_toArray, List.map_cons, List.map_nil]
 rw [h1, hrun]
 rfl
theorem ZNL {G : Ctx} {fid : FuncId} {t t2 : Nat} {ats : Array TypeId} {q : IntKind} {r : Regs} {h : Heap} {n : Nat} {K : SV -> Heap -> Nat -> Prop} {k wd row col m : Nat} {f : Nat -> List Value} {y : Int}
  (hx : ExtA G.P fid Extern.Atomic.storeT) (hv : rget r t = some (.o (.l (.p k wd row col)))) (hv2 : rget r t2 = some (.o (.l (.v (.int q y))))) (hk : hget h k = some (.ar wd m f)) (hrow : row < m) (hcol : col < wd) (hc : ∃ x, (f row)[col]? = some x)
  (hK : stAt h k wd row col 1 (.l (.v (.int q y))) fun u => K (.t []) u n) : EscP G (.call { callee := .value (.func fid), args := #[.tmp t, .tmp t2], argTypes := ats }) r h n K := by
 rw [ZCw]
 intro G' hP o ρ φ a w ho g hr
 obtain ⟨fn, e1, e2, e3, e4, e5⟩ := hx.out
 rw [<- hP] at e1
 obtain ⟨h1, _⟩ := ZAF hr (X := .tmp t) (x := .r t) rfl (v := .l (.p k wd row col)) (by simp only [oget, hv])
 obtain ⟨h2, _⟩ := ZAF hr (X := .tmp t2) (x := .r t2) rfl (v := .l (.v (.int q y))) (by simp only [oget, hv2])
 obtain ⟨c1, c2⟩ := ZIx g hk hrow hcol
 obtain ⟨x, hc⟩ := hc
 rw [hc] at c1
 have hrun := run_call_store (w := w) (k := q) (y := y) e1 e2 e3 e4 e5 c1 c2
 obtain ⟨u, w', φ', hK', h5, h6, h7, h8⟩ := ZFq g (v := .l (.v (.int q y))) trivial hK
 have hw : w' = w.setCell (adr (ρ k) (row * wd + col)) (.int q y) := by
  simp only [cellsOf, List.map_cons, List.map_nil, LV.at, storeCells] at h7
  rw [Sem.run_bind, show (adr (ρ k) (row * wd + col)).add 0 = adr (ρ k) (row * wd + col) from rfl, run_store _ _ _ _ _ rfl, c1] at h7
  simp only [c2] at h7
  simpa [Result.andThen] using h7.symm
 subst hw
 refine .of_runs ⟨.t [], u, n, ρ, φ', _, hK', Nat.le_refl _, Nat.le_succ _, fun _ _ => rfl, h8.mono (fun _ _ => rfl) (ZBf (lt n) n) (fun _ _ _ _ _ => rfl) h8.frm (Nat.le_refl _), fun x hx => (by cases hx), .inl ?_⟩
 simp only [AV.at, LV.at] at h1 h2
 simp only [execOp, ho, resolve, Act.eval, Deferred.ofValue, Sem.run_bind, Sem.run_pure, Result.andThen_ok, invoke]
 simp only [Array.append_empty, Array.empty_append, List.map_toArray, List.map_cons, List.map_nil]
 rw [h1, h2, hrun]
 rfl
end Go.Sx
