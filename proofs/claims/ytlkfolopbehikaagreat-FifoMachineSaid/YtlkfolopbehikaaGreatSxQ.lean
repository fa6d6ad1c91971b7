/- part -/
import Derived.Test.YtlkfolopbehikaaGreatSxP
set_option linter.unusedSimpArgs false
set_option linter.unusedVariables false
set_option linter.unusedSectionVars false
namespace Go.Sx
open Go
inductive RV where
 | t (t : Nat)
 | c (a : Nat)
 | ca (a m : Nat)
def cR (P : Program) : List ResultVar -> Option (List RV)
 | [] => some []
 | .tmp t :: rest => (cR P rest).map (.t t :: ·)
 | .cell a ty :: rest => match P.underlying ty, P.info? ty, cR P rest with
  | some d, some i, some l => if ZEa d then some (.ca a i.size :: l) else some (.c a :: l)
  | _, _, _ => none
def ZI1 : List AV -> SV
 | [x] => .o x
 | xs => .t xs
def evR : List RV -> Regs -> Heap -> List AV -> (SV -> Prop) -> Prop
 | [], _, _, acc, K => K (ZI1 acc)
 | .t t :: rest, r, h, acc, K => match rget r t with
  | some (.o v) => evR rest r h (acc ++ [v]) K
  | _ => False
 | .c a :: rest, r, h, acc, K => match rget r a with
  | some (.o (.l (.p k wd row col))) => ldAt h k wd row col fun v => evR rest r h (acc ++ [.l v]) K
  | _ => False
 | .ca a m :: rest, r, h, acc, K => match rget r a with
  | some (.o (.l (.p k wd row col))) => ZEY h k wd row col m fun v => evR rest r h (acc ++ [.a v]) K
  | _ => False
def ZHu (tmps : Array Value) : ResultVar -> Sem Value
 | .tmp t => pure (tmps.getD t undef)
 | .cell a t => do loadVar t (<- asAddr (tmps.getD a undef))
theorem ZNN (fn : Func) (tmps : Array Value) : results fn tmps = (do
  let vs <- fn.results.mapM (ZHu tmps)
  pure (if h : vs.size = 1 then vs[0] else .tuple vs)) := by
 unfold results
 congr 2
theorem ZGz {G : Ctx} {r : Regs} {h : Heap} {n : Nat} {ρ : Env} {φ : Nat -> List Nat} {a : Act} {w : World} (g : GM G h (lt n) ρ φ w) (hr : RM r (lt n) ρ a) {K : SV -> Prop} : ∀ (l : List ResultVar) (rs : List RV) (acc : List AV), cR G.P l = some rs ->
  evR rs r h acc K -> (∀ x ∈ acc, x.ok ρ (lt n)) -> ∃ xs : List AV, K (ZI1 xs) /\ (∀ x ∈ xs, x.ok ρ (lt n)) /\ ∃ ys : List AV, xs = acc ++ ys /\
   (l.mapM (ZHu a.tmps)).run G.P w = .ok (ys.map (AV.at ρ)) w
 | [], rs, acc, hc, he, hok => by
  simp [cR] at hc; subst hc
  exact ⟨acc, he, hok, [], by simp, by simp⟩
 | .tmp t :: l, rs, acc, hc, he, hok => by
  simp only [cR, Option.map_eq_some_iff] at hc
  obtain ⟨rs', hrs, rfl⟩ := hc
  simp only [evR] at he
  split at he
  ·rename_i v hv
   obtain ⟨h1, h2⟩ := hr t _ hv
   obtain ⟨xs, k1, k2, ys, k3, k4⟩ := ZGz g hr l rs' (acc ++ [v]) hrs he (by
    intro x hx
    rcases List.mem_append.1 hx with hx | hx
    ·exact hok x hx
    ·simp at hx; subst hx; exact h2)
   refine ⟨xs, k1, k2, v :: ys, by simp [k3], ?_⟩
   have : a.tmps.getD t undef = v.at ρ := by simp [h1, SV.at]
   simp only [List.mapM_cons, ZHu, Sem.run_bind, Sem.run_pure, Result.andThen_ok, this, k4, List.map_cons]
  ·exact he.elim
 | .cell b ty :: l, rs, acc, hc, he, hok => by
  simp only [cR] at hc
  split at hc
  ·rename_i d i rs' hd hi hrs
   have fin : ∀ (v : AV), v.ok ρ (lt n) -> (∀ ad, a.tmps.getD b undef = .pointer (some ad) -> (loadVar ty ad).run G.P w = .ok (v.at ρ) w) -> (∃ ad, a.tmps.getD b undef = .pointer (some ad)) -> evR rs' r h (acc ++ [v]) K -> ∃ xs : List AV, K (ZI1 xs) /\ (∀ x ∈ xs, x.ok ρ (lt n)) /\ ∃ ys : List AV, xs = acc ++ ys /\
     ((ResultVar.cell b ty :: l).mapM (ZHu a.tmps)).run G.P w = .ok (ys.map (AV.at ρ)) w := by
    intro v hv hld ⟨ad, had⟩ hev
    obtain ⟨xs, k1, k2, ys, k3, k4⟩ := ZGz g hr l rs' (acc ++ [v]) hrs hev (by
     intro x hx
     rcases List.mem_append.1 hx with hx | hx
     ·exact hok x hx
     ·simp at hx; subst hx; exact hv)
    refine ⟨xs, k1, k2, v :: ys, by simp [k3], ?_⟩
    simp only [List.mapM_cons, ZHu, Sem.run_bind, Sem.run_pure, Result.andThen_ok, had, asAddr, hld ad had, k4, List.map_cons]
   split at hc
   ·rename_i hag
    simp only [Option.some.injEq] at hc; subst hc
    simp only [evR] at he
    split at he
    ·rename_i k wd row col hv
     obtain ⟨h1, h2⟩ := hr b _ hv
     obtain ⟨vs, hK, h3, h4, h5⟩ := ZF2 g he
     have hp : a.tmps.getD b undef = .pointer (some (adr (ρ k) (row * wd + col))) := by simp [h1, SV.at, AV.at, LV.at]
     refine fin (.a vs) h3 (fun ad had => ?_) ⟨_, hp⟩ hK
     rw [hp] at had; cases had
     have hl : (vs.map (LV.at ρ)).length = i.size := by simpa using h4
     have hld := run_loadCells_list (P := G.P) w (adr (ρ k) (row * wd + col)) (vs.map (LV.at ρ)) h5
     rw [hl] at hld
     simp [loadVar, ZA4 hd, hag, ZAX hi, hld, AV.at]
    ·exact he.elim
   ·rename_i hag
    simp only [Option.some.injEq] at hc; subst hc
    simp only [evR] at he
    split at he
    ·rename_i k wd row col hv
     obtain ⟨h1, h2⟩ := hr b _ hv
     obtain ⟨v, hK, h3, h4⟩ := ZHk g he
     have hp : a.tmps.getD b undef = .pointer (some (adr (ρ k) (row * wd + col))) := by simp [h1, SV.at, AV.at, LV.at]
     refine fin (.l v) h3 (fun ad had => ?_) ⟨_, hp⟩ hK
     rw [hp] at had; cases had
     simp [loadVar, ZA4 hd, hag, h4, AV.at]
    ·exact he.elim
  ·cases hc
def ZI2 (l : List Nat) : Nat -> Bool
 | 0 => true
 | k + 1 => (match nth l k with | some j => Nat.beq j k | none => false) && ZI2 l k
theorem ZFs {l : List Nat} : ∀ {np : Nat}, ZI2 l np = true -> ∀ k, k < np -> nth l k = some k
 | np + 1, h, k, hk => by
  simp only [ZI2, Bool.and_eq_true] at h
  by_cases hk' : k = np
  ·subst hk'
   have h1 := h.1
   split at h1
   ·rename_i j hj; rw [hj, Nat.eq_of_beq_eq_true h1]
   ·cases h1
  ·exact ZFs h.2 k (by omega)
theorem ZG0 {l : List Nat} {np : Nat} (h : ZI2 l np = true) : np <= l.length := by
 cases np with
 | zero => exact Nat.zero_le _
 | succ k =>
  have := ZFs h k (Nat.lt_succ_self k)
  rw [ZAc] at this
  exact (List.getElem?_eq_some_iff.1 this).1
theorem ZKK {l : List Nat} {n np k : Nat} (h : ZI2 l np = true) (hk : k < np) : ren1 l n k = k := by
 simp [ren1, ZFs h k hk]
theorem ZO8 {h h' : Heap} {n : Nat} {ρ : Env} {φ : Nat -> List Nat} {w : World} (l : List Nat) (hm : HM h (lt n) ρ φ w) (hl : l.all (fun j => decide (j < n)) = true) (hall : ZBB (ren1 l n) h h') (hap : ZBv (ren1 l n) h' = true) :
  HM h' (lt l.length) (fun k => ρ (ren1 l n k)) (fun k => φ (ren1 l n k)) w where
 at_ := fun k e hk => by
  obtain ⟨e', h1, h2⟩ := hall.get (ZAa hk)
  exact h2.at_ (fun k hk => ZCf hk) (hm.at_ _ e' h1)
 lt := fun k e hk => by
  obtain ⟨e', h1, h2⟩ := hall.get (ZAa hk)
  exact ZCf (hm.lt _ e' h1)
 dj := fun k k' e e' hk hk' hne ho b hb => by
  obtain ⟨e1, h1, h2⟩ := hall.get (ZAa hk)
  obtain ⟨e2, h3, h4⟩ := hall.get (ZAa hk')
  exact hm.dj _ _ e1 e2 h1 h3 (ZGu hap (ZAa hk) (ZAa hk') hne (.inl ho)) (h2.own ho) b hb
 sz := fun k e hk b hb => by
  obtain ⟨e', h1, h2⟩ := hall.get (ZAa hk)
  exact hm.sz _ e' h1 b hb
structure FinP (np : Nat) (x : SV) (h : Heap) (n : Nat) (Q : SV -> Heap -> Nat -> Prop) : Prop where
 out : ∀ ρ φ w, HM h (lt n) ρ φ w -> x.ok ρ (lt n) -> ∃ (x' : SV) (h' : Heap) (n' : Nat) (ρ' : Env) (φ' : Nat -> List Nat), x.at ρ = x'.at ρ' /\ Q x' h' n' /\ np <= n' /\ (∀ k, k < np -> k < n /\ ρ' k = ρ k) /\ HM h' (lt n') ρ' φ' w /\ x'.ok ρ' (lt n') /\
  ∀ k e, hget h' k = some e -> e.own = true -> ∀ b ∈ φ' k, Own h φ b
theorem ZCl {np : Nat} {x : SV} {h : Heap} {n : Nat} {Q : SV -> Heap -> Nat -> Prop} (l : List Nat) (x' : SV) (h' : Heap) (n' : Nat) (hn : l.length = n') (hQ : Q x' h' n') (h1 : ZI2 l np = true) (h2 : l.all (fun j => decide (j < n)) = true) (h3 : x = x'.ren (ren1 l n))
  (h4 : ZBB (ren1 l n) h h') (h5 : ZBv (ren1 l n) h' = true) : FinP np x h n Q := by
 subst hn
 refine ⟨fun ρ φ w hm hok => ⟨x', h', l.length, fun k => ρ (ren1 l n k), fun k => φ (ren1 l n k), by rw [h3, SV.at_ren], hQ, ZG0 h1, fun k hk => ?_, ZO8 l hm h2 h4 h5, ?_, fun k e hk ho b hb => ?_⟩⟩
 ·have e1 : ren1 l n k = k := ZKK h1 hk
  refine ⟨?_, by show ρ (ren1 l n k) = ρ k; rw [e1]⟩
  have := ZO0 (l := l) (n := n) h2 (Nat.lt_of_lt_of_le hk (ZG0 h1))
  omega
 ·rw [h3] at hok
  have := (SV.ok_ren ρ (lt n) (ren1 l n) x').1 hok
  exact SV.ok_mono (fun _ _ => rfl) (fun k hk => ZCf hk) this
 ·obtain ⟨e', q1, q2⟩ := h4.get (ZAa hk)
  exact ⟨_, e', q1, q2.own ho, hb⟩
def ZAW (pre : Heap) (np : Nat) (H : Heap) (M : Nat) : Prop :=
 np <= M /\ ∀ ρ φ w, HM pre (lt np) ρ φ w -> ∃ ρ' φ', (∀ k, k < np -> ρ' k = ρ k) /\ HM H (lt M) ρ' φ' w /\ (∀ k e, hget H k = some e -> e.own = true -> ∀ b ∈ φ' k, Own pre φ b) /\
  ∀ k e, hget H k = some e -> ∀ b ∈ φ' k, ∃ k0 e0, hget pre k0 = some e0 /\ b ∈ φ k0
theorem ZI3 (w : World) (F : Nat -> Prop) : Frm w F w := ⟨Nat.le_refl _, fun _ _ _ => rfl, rfl, rfl, rfl⟩
theorem ZAW.refl (h : Heap) (n : Nat) : ZAW h n h n := ⟨Nat.le_refl _, fun ρ φ w hm => ⟨ρ, φ, fun _ _ => rfl, hm, fun k e hk ho b hb => ⟨k, e, hk, ho, hb⟩, fun k e hk b hb => ⟨k, e, hk, hb⟩⟩⟩
def ZFt : Nat -> List AV -> Regs
 | _, [] => []
 | n, x :: xs => (n, .o x) :: ZFt (n + 1) xs
theorem ZG1 : ∀ (xs : List AV) (m t : Nat) (y : SV), rget (ZFt m xs) t = some y -> ∃ j x, t = m + j /\ xs[j]? = some x /\ y = .o x
 | [], m, t, y, h => by simp [ZFt, rget] at h
 | x :: xs, m, t, y, h => by
  rw [ZFt, ZBG] at h
  split at h
  ·rename_i hm
   simp at h; subst h
   exact ⟨0, x, by omega, by simp, rfl⟩
  ·obtain ⟨j, x', h1, h2, h3⟩ := ZG1 xs (m + 1) t y h
   exact ⟨j + 1, x', by omega, by simpa using h2, h3⟩
def evF (G : Ctx) (ic : IC) (rs : List RV) (args : List AV) (pre : Heap) (n : Nat) (K : SV -> Heap -> Nat -> Prop) : Prop :=
 evC (CallP G) (InvP G) (EscP G) (LoopP G) (DrawP G) ic (ZFt 0 args) pre n fun e r h n => match e with
  | .nrm => evR rs r h [] fun x => K x h n
  | .ret => evR rs r h [] fun x => K x h n
  | .ex _ => False
theorem ZF5 {P : Program} {f : FuncId} {fn : Func} {ic : IC} {rs : List RV} {pre pre2 : Heap} {np np2 : Nat} {args : List AV} {Q : SV -> Heap -> Nat -> Prop} (hgs : ZAW pre np pre2 np2) (hf : P.funcs[f]? = some fn) (hic : cF P fn = some ic) (hrs : cR P fn.results.toList = some rs)
  (hb : ZCS P f = true) (hN : decide (args.length <= fn.ntmps) = true)
  (hev : ∀ G : Ctx, G.P = P -> G.A = np -> evF G ic rs args pre2 np2 fun x h n => FinP np x h n Q) : ZAE P f pre np args Q := by
 refine ⟨hb, fun ρ φ w hm hok hgw hgf => ?_⟩
 obtain ⟨c, hbody, hcc⟩ : ∃ c, fn.body = some c /\ cC P fn.ntmps c = some ic := by
  unfold cF at hic
  split at hic
  ·rename_i c hc; exact ⟨c, hc, hic⟩
  ·cases hic
 have hN := of_decide_eq_true hN
 obtain ⟨ρ2, φ2, g1, g2, g3, g4⟩ := hgs.2 ρ φ w hm
 have hD : ∀ k, lt np k -> lt np2 k := fun k hk => Nat.lt_of_lt_of_le hk hgs.1
 let G : Ctx := { P := P, w0 := w, F0 := Own pre φ, R0 := fun b => ∃ k e, hget pre k = some e /\ b ∈ φ k, ρ0 := ρ, A := np, N := fn.ntmps }
 have hg : GM G pre2 (lt np2) ρ2 φ2 w := ⟨g2, fun k hk => ⟨hD k hk, g1 k hk⟩, fun k e hk ho b hb => .inl (g3 k e hk ho b hb), ⟨Nat.le_refl _, fun _ _ _ => rfl, rfl, rfl, rfl⟩, fun k e hk b hb => .inl (g4 k e hk b hb), hgw, hgf⟩
 have hsat : Sat G (ZFt 0 args) pre2 np2 { tmps := (args.map (AV.at ρ)).toArray ++ Array.replicate (fn.ntmps - (args.map (AV.at ρ)).toArray.size) undef, defers := [] } w := by
  refine ⟨ρ2, φ2, hg, fun t x hx => ?_, by simp [G]; omega, rfl⟩
  obtain ⟨j, y, h1, h2, rfl⟩ := ZG1 args 0 t x hx
  obtain rfl : t = j := by omega
  have hj : t < args.length := (List.getElem?_eq_some_iff.1 h2).1
  refine ⟨?_, AV.ok_mono (fun k hk => g1 k hk) hD (hok y (List.mem_of_getElem? h2))⟩
  rw [Array.getElem?_append_left (by simpa using hj)]
  simp [h2, SV.at, AV.at_mono (fun k hk => g1 k hk) (hok y (List.mem_of_getElem? h2))]
 refine calls_of_wp hf hbody (wp_mono (ZBu (G := G) c ic _ _ _ _ _ w hcc (hev G rfl rfl) hsat) fun e a w' hq => ?_)
 have fin : ∀ r h n, evR rs r h [] (fun x => FinP np x h n Q) -> Sat G r h n a w' -> a.defers = [] /\ ∃ v, (results fn a.tmps).run P w' = .ok v w' /\
   ∃ x h' n' ρ' φ', Ending.returned v = .returned (x.at ρ') /\ Q x h' n' /\ np <= n' /\ (∀ k, k < np -> ρ' k = ρ k) /\ HM h' (lt n') ρ' φ' w' /\ x.ok ρ' (lt n') /\ Frm w (Own pre φ) w' /\
    ∀ k e, hget h' k = some e -> e.own = true -> ∀ b ∈ φ' k, Own pre φ b \/ w.heap.size <= b := by
  intro r h n hev' ⟨ρ1, φ1, gg, hr1, hsz, hdf⟩
  refine ⟨hdf, ?_⟩
  obtain ⟨xs, hK, hxs, ys, hys, hrun⟩ := ZGz (G := G) gg hr1 fn.results.toList rs [] hrs hev' (by simp)
  simp only [List.nil_append] at hys
  subst hys
  have hpack : (results fn a.tmps).run P w' = .ok ((ZI1 xs).at ρ1) w' := by
   have hrun' : (fn.results.mapM (ZHu a.tmps)).run P w' = .ok (xs.map (AV.at ρ1)).toArray w' := by
    rw [Array.mapM_eq_mapM_toList]
    simp only [map_eq_pure_bind, Sem.run_bind]
    have hrun2 := hrun
    simp only [G] at hrun2
    rw [hrun2]
    simp
   rw [ZNN]
   simp only [Sem.run_bind]
   rw [hrun']
   simp only [Result.andThen_ok, Sem.run_pure]
   congr 1
   match xs with
   | [] => rfl
   | [x] => rfl
   | x :: y :: xs => simp [ZI1, SV.at]
  refine ⟨_, hpack, ?_⟩
  have hxok : (ZI1 xs).ok ρ1 (lt n) := by
   match xs, hxs with
   | [], _ => intro y hy; cases hy
   | [x], hxs => exact hxs x (by simp)
   | x :: y :: xs, hxs => exact hxs
  obtain ⟨x', h', n', ρ', φ', k1, hQ, k2, k3, k4, k5, k6⟩ := hK.out ρ1 φ1 w' gg.hm hxok
  refine ⟨x', h', n', ρ', φ', by rw [k1], hQ, k2, fun k hk => ?_, k4, k5, gg.frm, fun k e hk ho b hb => ?_⟩
  ·rw [(k3 k hk).2]; exact (gg.an k hk).2
  ·obtain ⟨k0, e0, q1, q2, q3⟩ := k6 k e hk ho b hb
   exact gg.ow _ e0 q1 q2 b q3
 cases e with
 | normal => obtain ⟨r, h, n, hK, hs⟩ := hq; exact fin r h n hK hs
 | ret => obtain ⟨r, h, n, hK, hs⟩ := hq; exact fin r h n hK hs
 | exit id => obtain ⟨r, h, n, hK, hs⟩ := hq; exact hK.elim
 | goto l => exact hq.elim
 | panic c => exact hq.elim
 | outgrown => exact hq.elim
theorem ZNO {P : Program} {f : FuncId} {fn : Func} {ic : IC} {rs : List RV} {pre : Heap} {np : Nat} {args : List AV} {Q : SV -> Heap -> Nat -> Prop} (hf : P.funcs[f]? = some fn) (hic : cF P fn = some ic) (hrs : cR P fn.results.toList = some rs)
  (hb : ZCS P f = true) (hN : decide (args.length <= fn.ntmps) = true)
  (hev : ∀ G : Ctx, G.P = P -> G.A = np -> evF G ic rs args pre np fun x h n => FinP np x h n Q) : ZAE P f pre np args Q := ZF5 (ZAW.refl pre np) hf hic hrs hb hN hev
def ZFu (ι : Nat -> Nat) (r : Regs) : Regs -> Prop
 | [] => True
 | (t, x) :: rest => (match rget r t with | some y => y = x.ren ι | none => False) /\ ZFu ι r rest
theorem ZFu.get {ι : Nat -> Nat} {r : Regs} : ∀ {l : Regs} {t : Nat} {x : SV}, ZFu ι r l -> rget l t = some x -> rget r t = some (x.ren ι)
 | (t', x') :: l, t, x, h, hg => by
  rw [ZBG] at hg
  split at hg
  ·rename_i ht; subst ht
   simp at hg; subst hg
   have := h.1
   split at this
   ·rename_i y hy; rw [hy, this]
   ·exact this.elim
  ·exact ZFu.get h.2 hg
theorem ZEF {G : Ctx} {np : Nat} (hA : G.A = np) {r : Regs} {h : Heap} {n : Nat} {r' : Regs} {h' : Heap} {n' : Nat} (l : List Nat) (hn : l.length = n') (h1 : ZI2 l np = true) (h2 : l.all (fun j => decide (j < n)) = true)
  (h3 : ZFu (ren1 l n) r r') (h4 : ZBB (ren1 l n) h h') (h5 : ZBv (ren1 l n) h' = true) : Imp G r h n r' h' n' := by
 subst hn
 intro a w ⟨ρ, φ, g, hr, hsz, hdf⟩
 refine ⟨fun k => ρ (ren1 l n k), fun k => φ (ren1 l n k), ⟨ZO8 l g.hm h2 h4 h5, fun k hk => ?_, fun k e hk ho b hb => ?_, g.frm, fun k e hk b hb => (by obtain ⟨e', q1, _⟩ := h4.get (ZAa hk); exact g.fx _ e' q1 b hb), g.gb⟩, fun t x hx => ?_, hsz, hdf⟩
 ·rw [hA] at hk
  exact ⟨Nat.lt_of_lt_of_le hk (ZG0 h1), (by show ρ (ren1 l n k) = _; rw [ZKK h1 hk]; exact (g.an k (by rw [hA]; exact hk)).2)⟩
 ·obtain ⟨e', q1, q2⟩ := h4.get (ZAa hk)
  exact g.ow _ e' q1 (q2.own ho) b hb
 ·obtain ⟨q1, q2⟩ := hr t _ (h3.get hx)
  exact ⟨by rw [q1, SV.at_ren], SV.ok_mono (fun _ _ => rfl) (fun k hk => ZCf hk) ((SV.ok_ren ρ _ _ x).1 q2)⟩
theorem bsplit {kf kt : Prop} {b : Bool} (ht : b = true -> kt) (hf : b = false -> kf) : @Bool.rec (fun _ => Prop) kf kt b := by cases b <;> simp_all
theorem dsplit {kf kt p : Prop} [Decidable p] (ht : p -> kt) (hf : ¬ p -> kf) : @Bool.rec (fun _ => Prop) kf kt (decide p) := by by_cases h : p <;> simp [h] <;> first | exact ht h | exact hf h
theorem ZG2 {k : IntKind} {n : Int} (h0 : k.min <= n) (h1 : n <= k.max) : k.wrap n = n := by
 cases k <;> simp only [IntKind.wrap, IntKind.bits, IntKind.signed, IntKind.min, IntKind.max, if_true, Bool.true_and, Bool.false_and, Bool.false_eq_true, if_false, Nat.reduceSub] at * <;> (try split) <;> (try simp at *) <;> omega
theorem ZRn {n : Int} {K : Int -> Prop} (h0 : -9223372036854775808 <= n) (h1 : n <= 9223372036854775807) (hk : K n) : ArP .i64 n K := by rw [ZAk]; rw [ZG2 (k := .i64) h0 h1]; exact hk
theorem ZSm {n : Int} {K : Int -> Prop} (h0 : 0 <= n) (h1 : n <= 4294967295) (hk : K n) : ArP .u32 n K := by rw [ZAk]; rw [ZG2 (k := .u32) h0 h1]; exact hk
theorem arU8 {n : Int} {K : Int -> Prop} (h0 : 0 <= n) (h1 : n <= 255) (hk : K n) : ArP .u8 n K := by rw [ZAk]; rw [ZG2 (k := .u8) h0 h1]; exact hk
theorem arW {k : IntKind} {n : Int} {K : Int -> Prop} (hk : K (k.wrap n)) : ArP k n K := by rw [ZAk]; exact hk
end Go.Sx
