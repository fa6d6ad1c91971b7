/- The symbolic walk, part VL: laws whose code reads package-level variables that are laid: from what the row lists to what the walk knows; the row. -/
import Derived.Test.YtmccmanekbiadaaDoorSxV
import Derived.LaidLaws
import Derived.OpenShut
import Derived.MakeChecks
set_option linter.unusedSimpArgs false
set_option linter.unusedVariables false
namespace Go.Sx
open Go
open Go.ChangeShapes Go.WideShapes Go.ChangeAt Go.RowKit

theorem laidMetH_heap {P : Program} {l : List (String × DataW Unit)} (hp : (l.all fun x => x.2.handleName?.isNone) = true) {w w' : World} (hh : w.heap = w'.heap) (h : laidMetH P l w) : laidMetH P l w' := by
  rw [MakeChecks.laidMetH_plain _ _ _ hp] at h ⊢
  exact h.of_heap hh
/-- A value as a row lists it. -/
def litD {H : Type} : Value → DataW H
  | .int k n => .lit (.int k n)
  | .string s => .lit (.string s.data.toList)
  | .bool b => .lit (.bool b)
  | _ => .nil
def plainTy (P : Program) (e : TypeId) : Bool := match P.underlying e with
  | some (.int _) => true
  | some .string => true
  | some .bool => true
  | _ => false
def plainVal : Value → Bool
  | .int _ _ => true
  | .string _ => true
  | .bool _ => true
  | _ => false
theorem plain_cell {H : Type} {enc : TypeId × Value → H} {P : Program} {w : World} {base : Nat} {spare : Nat → Bool} {held : Bool} {fuel : Nat} {e : TypeId} {cs : List Value} {v : Value} {x : DataW H × List MemPlace}
    (he : plainTy P e = true) (hv : plainVal v = true) (h : DataW.trod enc P w base spare held fuel e cs = some x) (hx : x.1 = litD v) : cs = [v] := by
  unfold plainTy at he
  split at he
  · rename_i k hu
    obtain ⟨n, rfl, rfl, _⟩ := DataW.trod_int hu h
    cases v <;> simp_all [litD, plainVal]
  · rename_i hu
    obtain ⟨s, rfl, rfl, _⟩ := DataW.trod_string hu h
    cases v <;> simp_all [litD, plainVal]
    rename_i s'
    have : s.data = s'.data := by simpa [Array.toList_inj] using hx
    cases s; cases s'; simp_all
  · rename_i hu
    obtain ⟨b, rfl, rfl⟩ := DataW.trod_bool hu h
    cases v <;> simp_all [litD, plainVal]
  · cases he
theorem plain_array {H : Type} {enc : TypeId × Value → H} {P : Program} {w : World} {base : Nat} {spare : Nat → Bool} {held : Bool} {fuel n : Nat} {t e : TypeId} {cs vs : List Value} {p : List MemPlace}
    (ht : P.underlying t = some (.array n e)) (he : plainTy P e = true) (hce : P.cellsOf e = 1) (hct : P.cellsOf t = n) (hvs : vs.all plainVal = true)
    (h : DataW.trod enc P w base spare held fuel t cs = some (.agg (vs.map litD), p)) : cs = vs := by
  obtain ⟨xs, m, rfl, hx, hl, hxl, hall⟩ := DataW.trod_array ht h
  have hxs : xs.map (·.1) = vs.map (litD (H := H)) := by
    have := congrArg Prod.fst hx
    simpa using this.symm
  have hvl : vs.length = n := by
    have := congrArg List.length hxs
    simp at this
    omega
  apply List.ext_getElem?
  intro i
  by_cases hi : i < n
  · have h1 := hall i hi
    obtain ⟨b, hb⟩ : ∃ b, xs[i]? = some b := ⟨xs[i]'(by omega), List.getElem?_eq_getElem (by omega)⟩
    obtain ⟨v, hv⟩ : ∃ v, vs[i]? = some v := ⟨vs[i]'(by omega), List.getElem?_eq_getElem (by omega)⟩
    rw [hb, hce] at h1
    have h3 : (xs.map (·.1))[i]? = some b.1 := by simp [hb]
    rw [hxs] at h3
    simp only [List.getElem?_map, hv, Option.map_some, Option.some.injEq] at h3
    have hc := plain_cell he (List.all_eq_true.1 hvs v (List.mem_of_getElem? hv)) h1 h3.symm
    have := congrArg (·[0]?) hc
    rw [hv]
    simpa [List.getElem?_take, List.getElem?_drop] using this
  · rw [List.getElem?_eq_none (by omega), List.getElem?_eq_none (by omega)]
/-- What a row's list says of one variable. -/
theorem laid_reads {P : Program} {w : World} : ∀ {l : List (String × DataW Unit)} {ps : List MemPlace}, DataW.LaidVars P w l ps → ∀ n d, (n, d) ∈ l →
    ∃ g t cs fuel p, P.globalNamed n = some g ∧ (P.globals[g]?).map (·.type) = some t ∧ w.var? P n = some cs ∧ DataW.trod (fun _ => ()) P w 0 (fun _ => true) false fuel t cs.toList = some (d, p) ∧ ∀ i, i < cs.size → MemPlace.cell g i ∈ ps
  | [], _, _, _, _, hm => by cases hm
  | (n', d') :: r, ps, h, n, d, hm => by
    obtain ⟨g, t, cs, fuel, p, q, h1, h2, h3, h4, h5, rfl⟩ := h
    rcases List.mem_cons.1 hm with e | e
    · cases e
      refine ⟨g, t, cs, fuel, p, h1, h2, h3, h4, fun i hi => ?_⟩
      refine List.mem_append_left _ (List.mem_append_left _ ?_)
      exact List.mem_map.2 ⟨i, List.mem_range.2 hi, by simp⟩
    · obtain ⟨g, t, cs, fuel, p, k1, k2, k3, k4, k5⟩ := laid_reads h5 n d e
      exact ⟨g, t, cs, fuel, p, k1, k2, k3, k4, fun i hi => List.mem_append_right _ (k5 i hi)⟩
theorem laid_at {P : Program} {w : World} {l : List (String × DataW Unit)} (h : laidMetH P l w) (hp : (l.all fun x => x.2.handleName?.isNone) = true) {name : String} {g : Nat} {t e : TypeId} {vs : List Value}
    (hm : (name, .agg (vs.map litD)) ∈ l) (hg : P.globalNamed name = some g) (hty : (P.globals[g]?).map (·.type) = some t) (ht : P.underlying t = some (.array vs.length e)) (he : plainTy P e = true) (hce : P.cellsOf e = 1) (hct : P.cellsOf t = vs.length) (hvs : vs.all plainVal = true)
    (hne : 0 < vs.length) : LaidAt w g vs := by
  rw [MakeChecks.laidMetH_plain _ _ _ hp] at h
  obtain ⟨ps, h1, h2, h3⟩ := h
  obtain ⟨g', t', cs, fuel, p, k1, k2, k3, k4, k5⟩ := laid_reads h1 _ _ hm
  obtain rfl := Option.some.inj (hg.symm.trans k1)
  obtain rfl := Option.some.inj (hty.symm.trans k2)
  have hc := plain_array ht he hce hct hvs k4
  have hsz : cs.size = vs.length := by rw [← hc]; simp
  obtain ⟨⟨c, u, hb⟩, _⟩ := h3 g 0 (k5 0 (by omega))
  refine ⟨u, ?_⟩
  have : w.var? P name = some c := by simp [World.var?, hg, hb]
  rw [k3] at this
  cases this
  rw [hb, ← hc]

/-- **A law's row that lists laid variables, out of a contract of its function.** -/
theorem law_lift_laid {H : Type} {enc : TypeId × Value → H} {C : _root_.Go.Checked} {os : Os} (fid : FuncId) (tb : TypeId) {fn : Func} {s : ChangeSpec} (lst : List (String × DataW Unit)) (hp : (lst.all fun x => x.2.handleName?.isNone) = true)
    (own : ownKnob C.prog.godebug = none) (started : os.Started) (laid : laidOutB C.prog = true) (noInit : C.prog.inits.idxOf? fid = none) (hfn : C.prog.funcs[fid]? = some fn)
    (wit : ∃ (w : World) (tape : Tape) (i : Input), w.os = os ∧ (w.forCall tape i).Shaped C.prog ∧ i.vars = [] ∧ Input.okWide C.prog (w.forCall tape i) .any w.heap.size fid i ∧
      ((s.pre enc C.prog fn [] false (w.forCall tape i).memory i.args ∧ laidMetH C.prog lst (w.forCall tape i).memory) ∧ sizedMet enc C.prog fn (OpenSpec.ofChange s) false (w.forCall tape i).memory i.args) ∧ ({} : Assume).holds C.prog (lone (Frame.enter C.prog fid i.args .normal) [] (w.forCall tape i)))
    (hvars : s.vars = []) (hres : fn.resultTypes.toList = [tb]) (hbool : C.prog.underlying tb = some .bool)
    (hs : ∀ ds : List (DataW H), ds.length = fn.params.toList.length → s.fn H ds = { results := [.lit (.bool true)], args := ds })
    (hts : fn.params.toList.all (takenT C.prog) = true)
    (hspec : ∀ ps, typedPs C.prog fn.params.toList ps → FSpec C.prog fid (heapC 0 (chksP ps)) (chksP ps).length (avsP 0 ps) fun x _ _ => x = sBool true) (hgl : ∀ W : World, laidMetH C.prog lst W → GlobW W) :
    ReturnsInHanded {} C os fid .any (fun w args => (s.pre enc C.prog fn [] false w args ∧ laidMetH C.prog lst w) ∧ sizedMet enc C.prog fn (OpenSpec.ofChange s) false w args) (s.post enc C.prog fn false true false false) := by
  refine returnsInHanded_of_change_and (C := C) (X := fun w _ => laidMetH C.prog lst w) (fun _ _ _ hh h => laidMetH_heap hp hh h) own started noInit hfn wit ?_
  intro W base args ds gs before hval hW _ hsz hL _
  have hW' := hW
  obtain ⟨p, q, hA, hV, rfl, hfz, hnd⟩ := hW
  rw [hvars] at hV
  have hgs : gs = [] ∧ q = [] := by
    cases gs with
    | nil => exact ⟨rfl, hV⟩
    | cons => exact hV.elim
  obtain ⟨rfl, rfl⟩ := hgs
  have hts := List.all_eq_true.1 hts
  have hsz' : ∀ b ∈ DataW.weightsEach C.prog fn.params.toList ds, b ≤ reachBytes := by
    have hvt : s.plain.varTypes C.prog = [] := by
      unfold DataSpec.varTypes
      have : s.plain.vars = s.vars := rfl
      rw [this, hvars]; rfl
    rw [hvt, List.append_nil, List.append_nil] at hsz
    rw [List.all_eq_true] at hsz
    exact fun b hb => by simpa using hsz b hb
  have hlt : ∀ y ∈ p, y.block < W.heap.size := by
    have go : ∀ {ts : List TypeId} {vs : List Value} {ds : List (DataW H)} {pl : List MemPlace}, DataW.TrodAll enc C.prog W 0 (fun _ => true) true ts vs ds pl → ∀ y ∈ pl, y.block < W.heap.size := by
      intro ts
      induction ts with
      | nil => intro vs ds pl h y hy; obtain ⟨_, _, rfl⟩ := trodAll_nil h; cases hy
      | cons t ts ih =>
        intro vs ds pl h y hy
        obtain ⟨v, vs', d, ds', p1, q1, rfl, rfl, rfl, h1, h2⟩ := trodAll_cons h
        rcases List.mem_append.1 hy with hy | hy
        · obtain ⟨m, hm⟩ := h1; exact DataW.trod_lt m _ _ _ hm y hy
        · exact ih h2 y hy
    exact go hA
  obtain ⟨ps, h1, h2, h3⟩ := open_all (base := base) hA (fun j t v hj hj' => hval j t v (by simpa using hj) (by simpa using hj')) hts hsz' hlt
  obtain ⟨a1, a2⟩ := h3 (locs (chksP ps)) (lt (chksP ps).length) 0 (fun j c hj => by
    refine ⟨by simp [locs, hj], ?_⟩
    have := (List.getElem?_eq_some_iff.1 hj).1
    show 0 + j < _
    omega)
  have hcall := (hspec ps h1).2 _ _ W (hm_heapC h2) a2 (hgl W hL) (fun g vs hg ⟨j, e, hj, ho, hb⟩ => by
    obtain ⟨_, c, _, hc, rfl⟩ := hget_heapC _ _ _ _ hj
    rw [(h2 c (List.mem_of_getElem? hc)).2.2] at ho
    cases ho)
  rw [a1] at hcall
  rw [show args.toList.toArray = args from rfl] at hcall
  refine hcall.mono fun e w' ⟨x, h', n', ρ', φ', he, hx, hn, hρ, hm, hok, hf, _⟩ => ?_
  subst hx
  have bel : Below W.heap.size W w' := ⟨hf.os, hf.tape, hf.output, hf.size, fun k hk => hf.blk k hk fun ⟨j, e, hj, ho, hb⟩ => by
    obtain ⟨_, c, _, hc, rfl⟩ := hget_heapC _ _ _ _ hj
    rw [(h2 c (List.mem_of_getElem? hc)).2.2] at ho
    cases ho⟩
  have hlen : ds.length = fn.params.toList.length := by
    have go : ∀ {ts : List TypeId} {vs : List Value} {ds : List (DataW H)} {pl : List MemPlace}, DataW.TrodAll enc C.prog W 0 (fun _ => true) true ts vs ds pl → ds.length = ts.length := by
      intro ts
      induction ts with
      | nil => intro vs ds pl h; obtain ⟨_, rfl, _⟩ := trodAll_nil h; rfl
      | cons t ts ih =>
        intro vs ds pl h
        obtain ⟨v, vs', d, ds', p1, q1, rfl, rfl, rfl, h1, h2⟩ := trodAll_cons h
        simp [ih h2]
    exact go hA
  have hkeep : ∀ {ts : List TypeId} {vs : List Value} {ds : List (DataW H)} {pl : List MemPlace}, (∀ t ∈ ts, takenT C.prog t = true) → (∀ y ∈ pl, y.block < W.heap.size) → DataW.TrodAll enc C.prog W 0 (fun _ => true) true ts vs ds pl →
      DataW.TrodAll enc C.prog w' 0 (fun b => decide (b < W.heap.size)) true ts vs ds pl := by
    intro ts
    induction ts with
    | nil => intro vs ds pl _ _ h; obtain ⟨rfl, rfl, rfl⟩ := trodAll_nil h; exact trodAll_mk0
    | cons t ts ih =>
      intro vs ds pl ht hb h
      obtain ⟨v, vs', d, ds', p1, q1, rfl, rfl, rfl, h1, h2⟩ := trodAll_cons h
      have htt := ht t (by simp)
      unfold takenT at htt
      split at htt
      · simp only [Bool.and_eq_true, decide_eq_true_eq] at htt
        exact trodAll_cons_mk (Below.trod laid htt.1.1.2 htt.1.2 h1 bel fun y hy => hb y (by simp [hy])) (ih (fun t h => ht t (by simp [h])) (fun y hy => hb y (by simp [hy])) h2)
      · cases htt
  refine ⟨_, he, ds, [], p ++ [], [], p, [], hW', ?_, ?_, ?_, bel.frame _, fun h => by cases h⟩
  · rw [hres, List.append_nil, hs ds hlen]
    have hsz : fn.resultTypes.size = 1 := by
      have := congrArg List.length hres
      simpa using this
    simp only [hsz]
    exact trodAll_mk1 (shut_bool hbool _)
  · rw [List.append_nil, hs ds hlen]
    exact hkeep hts hlt hA
  · rw [List.append_nil, hs ds hlen, hvars]
    exact rfl

end Go.Sx
