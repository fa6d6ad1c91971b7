/- part -/
import Derived.Test.YtlkfolopbehikaaGreatSxY
import Derived.Lib.LazyBuf
set_option linter.unusedSimpArgs false
namespace Go.Sx
open Go
theorem ZJ8 {G : Ctx} {ty el ty2 : TypeId} {t : Nat} {r : Regs} {h : Heap} {n : Nat} {K : SV -> Heap -> Nat -> Prop} {k wd row len d : Nat}
  (hs : G.P.underlying ty = some (.slice el)) (hv : rget r t = some (.o (.l (.s k wd row len d))))
  (hK : ∀ b : Bool, (b = true -> len = 0) -> K (ZAW b) [] n) : EscP G (.binOp .eql ty (.tmp t) (.const (.slice none 0 0)) ty2) r h n K := by
 rw [ZCy]
 intro G' hP o ρ φ a w ho g hr
 rw [<- hP] at hs
 obtain ⟨h1, h2⟩ := ZAD hr (X := .tmp t) (x := .r t) rfl (v := .l (.s k wd row len d)) (by simp only [oget, hv])
 have hx : a.eval (.tmp t) = (LV.s k wd row len d).at ρ := h1
 have hc : a.eval (.const (.slice none 0 0)) = .slice none 0 0 := rfl
 cases hh : (ρ k).nil with
 | true =>
  refine .of_runs (ZAO g (x := ZAW true) trivial (hK true fun _ => h2.2.1 hh) ?_)
  have hx' : a.eval (.tmp t) = .slice none 0 0 := by rw [hx]; simp [LV.at, hh]
  simp [execOp, ho, hx', hc, eqGuard, run_eql_slice_nil w ty el none 0 0 hs, ZAW, SV.at, AV.at, LV.at]
 | false =>
  refine .of_runs (ZAO g (x := ZAW false) trivial (hK false fun h => by cases h) ?_)
  have hx' : a.eval (.tmp t) = .slice (some (adr (ρ k) ((row - dof (ρ k).cap row d) * wd))) len ((ρ k).cap - row) := by rw [hx]; simp [LV.at, hh]
  simp [execOp, ho, hx', hc, eqGuard, run_eql_slice_nil w ty el _ _ _ hs, ZAW, SV.at, AV.at, LV.at]
theorem ZOg {h : Heap} {n : Nat} {ρ : Env} {φ : Nat -> List Nat} {w : World} (g : HM h (lt n) ρ φ w) (wd : Nat) (f : Nat -> List Value) :
  HM ((n, some (.ar wd 0 f)) :: h) (lt (n + 1)) (fun k => if k = n then nilL else ρ k) (fun k => if k = n then [] else φ k) w := by
 have hρ : ∀ k, lt n k -> (fun k => if k = n then nilL else ρ k) k = ρ k := fun k hk => by simp only [lt] at hk; simp [Nat.ne_of_lt hk]
 have old : ∀ k e, hget ((n, some (.ar wd 0 f)) :: h) k = some e -> (k = n /\ e = .ar wd 0 f) \/ (k ≠ n /\ hget h k = some e) := fun k e hk => by
  rw [ZAJ] at hk
  split at hk
  ·rename_i hh; cases hk; exact .inl ⟨hh.symm, rfl⟩
  ·rename_i hh; exact .inr ⟨Ne.symm hh, hk⟩
 refine ⟨fun k e hk => ?_, fun k e hk => ?_, fun k k' e e' hk hk' hkk ho b hb hb' => ?_, fun k e hk b hb => ?_⟩
 ·rcases old k e hk with ⟨rfl, rfl⟩ | ⟨h1, h2⟩
  ·simp only [if_true]; exact .inl ⟨rfl, rfl, rfl⟩
  ·simp only [h1, if_false]
   exact ZBV.mono hρ (fun k hk => Nat.lt_succ_of_lt hk) (fun _ _ => rfl) (g.at_ k e h2)
 ·rcases old k e hk with ⟨rfl, rfl⟩ | ⟨h1, h2⟩
  ·exact Nat.lt_succ_self _
  ·exact Nat.lt_succ_of_lt (g.lt k e h2)
 ·rcases old k e hk with ⟨rfl, rfl⟩ | ⟨h1, h2⟩
  ·simp at hb
  ·simp only [h1, if_false] at hb
   rcases old k' e' hk' with ⟨rfl, rfl⟩ | ⟨h3, h4⟩
   ·simp at hb'
   ·simp only [h3, if_false] at hb'
    exact g.dj k k' e e' h2 h4 hkk ho b hb hb'
 ·rcases old k e hk with ⟨rfl, rfl⟩ | ⟨h1, h2⟩
  ·simp at hb
  ·simp only [h1, if_false] at hb; exact g.sz k e h2 b hb
theorem ZAC.nil_ret {P : Program} {f : FuncId} {pre : Heap} {np : Nat} {args : List AV} {Q Q' : SV -> Heap -> Nat -> Prop} (h : ZAC P f pre np args Q)
  (hq : ∀ x h n, Q x h n -> Q' x h n \/ ∃ wd g x', (∀ ρ : Env, (ρ n).nil = true -> x'.at ρ = x.at ρ) /\ (∀ (ρ : Env) (D : Nat -> Prop), D n -> (ρ n).nil = true -> x.ok ρ D -> x'.ok ρ D) /\ Q' x' ((n, some (.ar wd 0 g)) :: h) (n + 1)) : ZAC P f pre np args Q' :=
 ⟨h.1, fun ρ φ w hm hok hgw hgf => (h.2 ρ φ w hm hok hgw hgf).mono fun e w' ⟨x, h', n', ρ', φ', he, hx, hnp, hρ, hm', hxok, hfr, how⟩ => by
  rcases hq _ _ _ hx with h1 | ⟨wd, g, x', h1, h2, h3⟩
  ·exact ⟨x, h', n', ρ', φ', he, h1, hnp, hρ, hm', hxok, hfr, how⟩
  ·have hρ2 : ∀ k, lt n' k -> (fun k => if k = n' then nilL else ρ' k) k = ρ' k := fun k hk => by simp only [lt] at hk; simp [Nat.ne_of_lt hk]
   refine ⟨x', (n', some (.ar wd 0 g)) :: h', n' + 1, fun k => if k = n' then nilL else ρ' k, fun k => if k = n' then [] else φ' k, ?_, h3, Nat.le_succ_of_le hnp, fun k hk => ?_, ZOg hm' wd g, ?_, hfr, fun k e hk ho b hb => ?_⟩
   ·rw [he, h1 _ (by simp [nilL]), SV.at_mono hρ2 hxok]
   ·rw [hρ2 k (Nat.lt_of_lt_of_le hk hnp)]; exact hρ k hk
   ·exact h2 _ _ (Nat.lt_succ_self n') (by simp [nilL]) (SV.ok_mono hρ2 (fun k hk => Nat.lt_succ_of_lt hk) hxok)
   ·by_cases hk' : k = n'
    ·subst hk'; simp at hb
    ·simp only [hk', if_false] at hb
     rw [ZAJ, if_neg (Ne.symm hk')] at hk
     exact how k e hk ho b hb⟩
theorem ZPe {n wd : Nat} (ρ : Env) (h : (ρ n).nil = true) : (SV.o (.l (.s n wd 0 0 0))).at ρ = (SV.o (.l (.v (.slice none 0 0)))).at ρ := by simp [SV.at, AV.at, LV.at, h]
theorem ZPf {n wd : Nat} (ρ : Env) (D : Nat -> Prop) (hD : D n) (h : (ρ n).nil = true) : (SV.o (.l (.s n wd 0 0 0))).ok ρ D := ⟨hD, fun _ => rfl, fun hh => by rw [h] at hh; cases hh⟩
theorem ZPL {l : Nat -> Nat} {a b : Bool} (h : a = b) : ZJw ([] ++ [AV.l (LV.v (Value.bool a))]) = SV.ren l (ZAW b) := by subst h; rfl
theorem ZAq {f g : Nat -> List Value} {i : Nat} (hg : g 0 = f i) : ∀ j, j < i + 1 -> (if j < i then f j else g (j - i)) = f j := fun j hj => by
 by_cases h : j < i
 ·simp [h]
 ·obtain rfl : j = i := by omega
  simp [hg]
theorem ZPM {G : Ctx} {f : FuncId} {xs ys : List AV} {h : Heap} {n : Nat} {K : SV -> Heap -> Nat -> Prop} {k wd row len d m : Nat} {g0 : Nat -> List Value} (hk : hget h k = some (.ro wd m g0)) (hm : row + len <= m)
  (he : CallP G f (xs ++ .l (.s n wd 0 len 0) :: ys) ((n, some (.ro wd len fun i => g0 (row + i))) :: h) (n + 1) fun x u n' => K x (u ++ [(n, some (.ro wd len fun i => g0 (row + i)))]) n') :
  CallP G f (xs ++ .l (.s k wd row len d) :: ys) h n K := by
 rw [ZCE] at he ⊢
 refine ⟨he.1, fun G' hG' ρ φ w g hok => ?_⟩
 have hokk : (LV.s k wd row len d).ok ρ (lt n) := hok (.l (.s k wd row len d)) (by simp)
 obtain ⟨hD, hn1, hn2⟩ := hokk
 have hE := g.hm.at_ k _ hk
 let s := ρ k
 let L : Loc := { blk := s.blk, off := (adr s ((row - dof s.cap row d) * wd)).off, cap := s.cap - row, nil := s.nil, spot := (adr s ((row - dof s.cap row d) * wd)).spot }
 have hadr : ∀ o, adr L o = (adr s ((row - dof s.cap row d) * wd)).add o := fun o => ZQj s _ o L rfl rfl rfl
 let F1 : List Nat := if len = 0 then [] else [s.blk]
 have hρ : ∀ j, lt n j -> (fun j => if j = n then L else ρ j) j = ρ j := fun j hj => by simp only [lt] at hj; simp [Nat.ne_of_lt hj]
 have hblk : 0 < len -> s.nil = false /\ φ k = [s.blk] /\ ∀ i, i < m -> (g0 i).length = wd /\ (∀ x ∈ g0 i, x.oneCell' = true) /\ ∀ j, j < wd -> w.cell? (adr s (i * wd + j)) = (g0 i)[j]? := fun hpos => by
  rcases hE with ⟨h0, _⟩ | ⟨h1, h2, h3⟩
  ·omega
  ·exact ⟨h1, h2, h3⟩
 have hd : 0 < len -> dof s.cap row d = 0 := fun hpos => by
  obtain ⟨_, h2, _⟩ := hn2 (hblk hpos).1
  rcases h2 with h2 | h2
  ·exact h2
  ·omega
 have hF1 : ∀ b ∈ F1, 0 < len /\ b = s.blk := fun b hb => by
  simp only [F1] at hb
  split at hb
  ·cases hb
  ·simp at hb; exact ⟨by omega, hb⟩
 have hent : ZBV (.ro wd len fun i => g0 (row + i)) (fun j => if j = n then L else ρ j) (lt (n + 1)) L F1 w := by
  by_cases h0 : len = 0
  ·exact .inl ⟨h0, by simp [F1, h0]⟩
  ·have hpos : 0 < len := by omega
   refine .inr ⟨(hblk hpos).1, by simp [F1, h0, L], fun i hi => ?_⟩
   obtain ⟨e1, e2, e3⟩ := (hblk hpos).2.2 (row + i) (by omega)
   refine ⟨e1, e2, fun c hc => ?_⟩
   rw [hadr, ZBw, hd hpos, Nat.sub_zero, <- e3 c hc]
   congr 2
   rw [Nat.add_mul]; omega
 have g2 := g.put_ro (.ro wd len fun i => g0 (row + i)) L F1 rfl hent (fun b hb => by
   obtain ⟨h1, rfl⟩ := hF1 b hb
   exact g.hm.sz k _ hk _ (by rw [(hblk h1).2.1]; simp)) (fun k' e' hk' ho b hb hb' => by
   obtain ⟨h1, rfl⟩ := hF1 b hb'
   have hne : k' ≠ k := fun e => by
    subst e; rw [hk] at hk'; cases hk'; cases ho
   exact g.hm.dj k' k e' _ hk' hk hne ho _ hb (by rw [(hblk h1).2.1]; simp)) (fun b hb => by
   obtain ⟨h1, rfl⟩ := hF1 b hb
   exact g.fx k _ hk _ (by rw [(hblk h1).2.1]; simp))
 have hval : (LV.s n wd 0 len 0).at (fun j => if j = n then L else ρ j) = (LV.s k wd row len d).at ρ := by
  simp only [LV.at, if_true]
  show (if s.nil then _ else _) = if s.nil then _ else _
  split
  ·rfl
  ·rw [hadr, dof0, show (0 - 0) * wd = 0 by simp]
   rfl
 have key := he.2 G' hG' _ _ w g2 (fun x hx => by
  rcases List.mem_append.1 hx with hx | hx
  ·exact AV.ok_mono hρ (fun k hk => Nat.lt_succ_of_lt hk) (hok x (List.mem_append.2 (.inl hx)))
  ·rcases List.mem_cons.1 hx with rfl | hx
   ·refine ⟨Nat.lt_succ_self n, fun hh => hn1 (by have : L.nil = true := (by simpa using hh); exact this), fun hh => ⟨?_, .inl (dof0 _ _), Nat.le_refl _⟩⟩
    have hh : s.nil = false := by simpa using hh
    have h4 : row + len <= s.cap := (hn2 hh).1
    simp only [if_true]
    show 0 + len <= s.cap - row
    omega
   ·exact AV.ok_mono hρ (fun k hk => Nat.lt_succ_of_lt hk) (hok x (List.mem_append.2 (.inr (List.mem_cons_of_mem _ hx)))))
 have e1 : (xs ++ AV.l (.s n wd 0 len 0) :: ys).map (AV.at fun j => if j = n then L else ρ j) = (xs ++ AV.l (.s k wd row len d) :: ys).map (AV.at ρ) := by
  simp only [List.map_append, List.map_cons]
  rw [List.map_congr_left fun x hx => AV.at_mono hρ (hok x (List.mem_append.2 (.inl hx))), List.map_congr_left fun x hx => AV.at_mono hρ (hok x (List.mem_append.2 (.inr (List.mem_cons_of_mem _ hx))))]
  rw [show (AV.l (.s n wd 0 len 0)).at (fun j => if j = n then L else ρ j) = (AV.l (.s k wd row len d)).at ρ from hval]
 rw [e1] at key
 refine key.mono fun e w' ⟨x, u, n', ρ', φ', h1, h2, h3, h4, h5, h6⟩ => ⟨x, _, n', ρ', φ', h1, h2, Nat.le_of_succ_le h3, fun k hk => ?_, by simpa using h5, h6⟩
 rw [h4 k (Nat.lt_succ_of_lt hk)]
 exact hρ k hk
theorem ZLI {G : Ctx} {f : FuncId} {xs : List AV} {h : Heap} {n : Nat} {K : SV -> Heap -> Nat -> Prop} (i : Nat) {k wd row len d m : Nat} {g0 : Nat -> List Value} (hx : nth xs i = some (.l (.s k wd row len d)))
  (hk : hget h k = some (.ro wd m g0)) (hm : row + len <= m)
  (he : CallP G f (setL xs i (.l (.s n wd 0 len 0))) ((n, some (.ro wd len fun i => g0 (row + i))) :: h) (n + 1) fun x u n' => K x (u ++ [(n, some (.ro wd len fun i => g0 (row + i)))]) n') : CallP G f xs h n K := by
 obtain ⟨e1, e2⟩ := ZJ7 (y := AV.l (.s n wd 0 len 0)) hx
 rw [e2] at he
 rw [e1]
 exact ZPM hk hm he
theorem ZJ9 {G : Ctx} {f : FuncId} {xs : List AV} {h : Heap} {n : Nat} {K : SV -> Heap -> Nat -> Prop} (i : Nat) {k wd row len d m : Nat} {g0 : Nat -> List Value} (hx : nth xs i = some (.l (.s k wd row len d)))
  (hk : hget h k = some (.ro wd m g0)) (hm : row + len <= m)
  (he : CallD G f (setL xs i (.l (.s n wd 0 len 0))) ((n, some (.ro wd len fun i => g0 (row + i))) :: h) (n + 1) fun x u n' => K x (u ++ [(n, some (.ro wd len fun i => g0 (row + i)))]) n') : CallD G f xs h n K := by
 rw [ZFF] at he ⊢
 obtain ⟨x, u, n', h1, h2⟩ := he
 refine ⟨x, _, n', ZLI i hx hk hm ?_, h2⟩
 rw [ZCE] at h1 ⊢
 refine ⟨h1.1, fun G' hG' ρ φ w g hok => (h1.2 G' hG' ρ φ w g hok).mono fun e w' ⟨x', u', m', ρ', φ', e1, ⟨e2, e3, e4⟩, e5⟩ => ⟨x', u', m', ρ', φ', e1, ⟨e2, by rw [e3], e4⟩, e5⟩⟩
theorem ZQk {l : Nat -> Nat} {k : IntKind} {a b : Int} (h : a = b) : ZJw ([] ++ [AV.l (LV.v (Value.int k a))]) = SV.ren l (sInt k b) := by subst h; rfl
end Go.Sx
