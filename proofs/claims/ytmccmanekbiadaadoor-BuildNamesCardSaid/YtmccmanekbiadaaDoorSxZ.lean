/- The symbolic walk, part Z: a slice beside nil; what one ends with, told otherwise. -/
import Derived.Test.YtmccmanekbiadaaDoorSxY
import Derived.Lib.LazyBuf
set_option linter.unusedSimpArgs false
namespace Go.Sx
open Go

/-- Is a slice nil? Only one of nothing may be. -/
theorem esc_isnil {G : Ctx} {ty el ty2 : TypeId} {t : Nat} {r : Regs} {h : Heap} {n : Nat} {K : SV → Heap → Nat → Prop} {k wd row len d : Nat}
    (hs : G.P.underlying ty = some (.slice el)) (hv : rget r t = some (.o (.l (.s k wd row len d))))
    (hK : ∀ b : Bool, (b = true → len = 0) → K (sBool b) [] n) : EscP G (.binOp .eql ty (.tmp t) (.const (.slice none 0 0)) ty2) r h n K := by
  rw [EscP_eq]
  intro G' hP o ρ φ a w ho g hr
  rw [← hP] at hs
  obtain ⟨h1, h2⟩ := oget_eval hr (X := .tmp t) (x := .r t) rfl (v := .l (.s k wd row len d)) (by simp only [oget, hv])
  have hx : a.eval (.tmp t) = (LV.s k wd row len d).at ρ := h1
  have hc : a.eval (.const (.slice none 0 0)) = .slice none 0 0 := rfl
  cases hh : (ρ k).nil with
  | true =>
    refine .of_runs (runs_pure g (x := sBool true) trivial (hK true fun _ => h2.2.1 hh) ?_)
    have hx' : a.eval (.tmp t) = .slice none 0 0 := by rw [hx]; simp [LV.at, hh]
    simp [execOp, ho, hx', hc, eqGuard, run_eql_slice_nil w ty el none 0 0 hs, sBool, SV.at, AV.at, LV.at]
  | false =>
    refine .of_runs (runs_pure g (x := sBool false) trivial (hK false fun h => by cases h) ?_)
    have hx' : a.eval (.tmp t) = .slice (some (adr (ρ k) ((row - dof (ρ k).cap row d) * wd))) len ((ρ k).cap - row) := by rw [hx]; simp [LV.at, hh]
    simp [execOp, ho, hx', hc, eqGuard, run_eql_slice_nil w ty el _ _ _ hs, sBool, SV.at, AV.at, LV.at]
/-- What comes out may be told otherwise: a nil slice as a slice of nothing, under a name of its own. -/
def nilAs (n wd : Nat) : LV → LV → Prop
  | .v (.slice none 0 0), .s n' wd' 0 0 0 => n' = n ∧ wd' = wd
  | _, _ => False
theorem hm_nil {h : Heap} {n : Nat} {ρ : Env} {φ : Nat → List Nat} {w : World} (g : HM h (lt n) ρ φ w) (wd : Nat) (f : Nat → List Value) :
    HM ((n, some (.ar wd 0 f)) :: h) (lt (n + 1)) (fun k => if k = n then nilL else ρ k) (fun k => if k = n then [] else φ k) w := by
  have hρ : ∀ k, lt n k → (fun k => if k = n then nilL else ρ k) k = ρ k := fun k hk => by simp only [lt] at hk; simp [Nat.ne_of_lt hk]
  have old : ∀ k e, hget ((n, some (.ar wd 0 f)) :: h) k = some e → (k = n ∧ e = .ar wd 0 f) ∨ (k ≠ n ∧ hget h k = some e) := fun k e hk => by
    rw [hget_cons] at hk
    split at hk
    · rename_i hh; cases hk; exact .inl ⟨hh.symm, rfl⟩
    · rename_i hh; exact .inr ⟨Ne.symm hh, hk⟩
  refine ⟨fun k e hk => ?_, fun k e hk => ?_, fun k k' e e' hk hk' hkk ho b hb hb' => ?_, fun k e hk b hb => ?_⟩
  · rcases old k e hk with ⟨rfl, rfl⟩ | ⟨h1, h2⟩
    · simp only [if_true]; exact .inl ⟨rfl, rfl, rfl⟩
    · simp only [h1, if_false]
      exact EntAt.mono hρ (fun k hk => Nat.lt_succ_of_lt hk) (fun _ _ => rfl) (g.at_ k e h2)
  · rcases old k e hk with ⟨rfl, rfl⟩ | ⟨h1, h2⟩
    · exact Nat.lt_succ_self _
    · exact Nat.lt_succ_of_lt (g.lt k e h2)
  · rcases old k e hk with ⟨rfl, rfl⟩ | ⟨h1, h2⟩
    · simp at hb
    · simp only [h1, if_false] at hb
      rcases old k' e' hk' with ⟨rfl, rfl⟩ | ⟨h3, h4⟩
      · simp at hb'
      · simp only [h3, if_false] at hb'
        exact g.dj k k' e e' h2 h4 hkk ho b hb hb'
  · rcases old k e hk with ⟨rfl, rfl⟩ | ⟨h1, h2⟩
    · simp at hb
    · simp only [h1, if_false] at hb; exact g.sz k e h2 b hb
/-- A contract whose answer may be a nil slice, told with a slice of nothing in its place. -/
theorem FSpec.nil_ret {P : Program} {f : FuncId} {pre : Heap} {np : Nat} {args : List AV} {Q Q' : SV → Heap → Nat → Prop} (h : FSpec P f pre np args Q)
    (hq : ∀ x h n, Q x h n → Q' x h n ∨ ∃ wd g x', (∀ ρ : Env, (ρ n).nil = true → x'.at ρ = x.at ρ) ∧ (∀ (ρ : Env) (D : Nat → Prop), D n → (ρ n).nil = true → x.ok ρ D → x'.ok ρ D) ∧ Q' x' ((n, some (.ar wd 0 g)) :: h) (n + 1)) : FSpec P f pre np args Q' :=
  ⟨h.1, fun ρ φ w hm hok hgw hgf => (h.2 ρ φ w hm hok hgw hgf).mono fun e w' ⟨x, h', n', ρ', φ', he, hx, hnp, hρ, hm', hxok, hfr, how⟩ => by
    rcases hq _ _ _ hx with h1 | ⟨wd, g, x', h1, h2, h3⟩
    · exact ⟨x, h', n', ρ', φ', he, h1, hnp, hρ, hm', hxok, hfr, how⟩
    · have hρ2 : ∀ k, lt n' k → (fun k => if k = n' then nilL else ρ' k) k = ρ' k := fun k hk => by simp only [lt] at hk; simp [Nat.ne_of_lt hk]
      refine ⟨x', (n', some (.ar wd 0 g)) :: h', n' + 1, fun k => if k = n' then nilL else ρ' k, fun k => if k = n' then [] else φ' k, ?_, h3, Nat.le_succ_of_le hnp, fun k hk => ?_, hm_nil hm' wd g, ?_, hfr, fun k e hk ho b hb => ?_⟩
      · rw [he, h1 _ (by simp [nilL]), SV.at_mono hρ2 hxok]
      · rw [hρ2 k (Nat.lt_of_lt_of_le hk hnp)]; exact hρ k hk
      · exact h2 _ _ (Nat.lt_succ_self n') (by simp [nilL]) (SV.ok_mono hρ2 (fun k hk => Nat.lt_succ_of_lt hk) hxok)
      · by_cases hk' : k = n'
        · subst hk'; simp at hb
        · simp only [hk', if_false] at hb
          rw [hget_cons, if_neg (Ne.symm hk')] at hk
          exact how k e hk ho b hb⟩
theorem nil_at {n wd : Nat} (ρ : Env) (h : (ρ n).nil = true) : (SV.o (.l (.s n wd 0 0 0))).at ρ = (SV.o (.l (.v (.slice none 0 0)))).at ρ := by simp [SV.at, AV.at, LV.at, h]
theorem nil_ok {n wd : Nat} (ρ : Env) (D : Nat → Prop) (hD : D n) (h : (ρ n).nil = true) : (SV.o (.l (.s n wd 0 0 0))).ok ρ D := ⟨hD, fun _ => rfl, fun hh => by rw [h] at hh; cases hh⟩
theorem bool_fin {l : Nat → Nat} {a b : Bool} (h : a = b) : packR ([] ++ [AV.l (LV.v (Value.bool a))]) = SV.ren l (sBool b) := by subst h; rfl
theorem snoc_rows {f g : Nat → List Value} {i : Nat} (hg : g 0 = f i) : ∀ j, j < i + 1 → (if j < i then f j else g (j - i)) = f j := fun j hj => by
  by_cases h : j < i
  · simp [h]
  · obtain rfl : j = i := by omega
    simp [hg]
theorem nbsplit {kf kt : Prop} {b : Bool} (ht : b = false → kt) (hf : b = true → kf) : @Bool.rec (fun _ => Prop) kf kt (!b) := by cases b <;> simp_all
/-- A part of a slice that is only read, handed over as a slice of its own. -/
theorem call_sub {G : Ctx} {f : FuncId} {xs ys : List AV} {h : Heap} {n : Nat} {K : SV → Heap → Nat → Prop} {k wd row len d m : Nat} {g0 : Nat → List Value} (hk : hget h k = some (.ro wd m g0)) (hm : row + len ≤ m)
    (he : CallP G f (xs ++ .l (.s n wd 0 len 0) :: ys) ((n, some (.ro wd len fun i => g0 (row + i))) :: h) (n + 1) fun x u n' => K x (u ++ [(n, some (.ro wd len fun i => g0 (row + i)))]) n') :
    CallP G f (xs ++ .l (.s k wd row len d) :: ys) h n K := by
  rw [CallP_eq] at he ⊢
  refine ⟨he.1, fun G' hG' ρ φ w g hok => ?_⟩
  have hokk : (LV.s k wd row len d).ok ρ (lt n) := hok (.l (.s k wd row len d)) (by simp)
  obtain ⟨hD, hn1, hn2⟩ := hokk
  have hE := g.hm.at_ k _ hk
  let s := ρ k
  let L : Loc := { blk := s.blk, off := (adr s ((row - dof s.cap row d) * wd)).off, cap := s.cap - row, nil := s.nil, spot := (adr s ((row - dof s.cap row d) * wd)).spot }
  have hadr : ∀ o, adr L o = (adr s ((row - dof s.cap row d) * wd)).add o := fun o => adr_off s _ o L rfl rfl rfl
  let F1 : List Nat := if len = 0 then [] else [s.blk]
  have hρ : ∀ j, lt n j → (fun j => if j = n then L else ρ j) j = ρ j := fun j hj => by simp only [lt] at hj; simp [Nat.ne_of_lt hj]
  have hblk : 0 < len → s.nil = false ∧ φ k = [s.blk] ∧ ∀ i, i < m → (g0 i).length = wd ∧ (∀ x ∈ g0 i, x.oneCell' = true) ∧ ∀ j, j < wd → w.cell? (adr s (i * wd + j)) = (g0 i)[j]? := fun hpos => by
    rcases hE with ⟨h0, _⟩ | ⟨h1, h2, h3⟩
    · omega
    · exact ⟨h1, h2, h3⟩
  have hd : 0 < len → dof s.cap row d = 0 := fun hpos => by
    obtain ⟨_, h2, _⟩ := hn2 (hblk hpos).1
    rcases h2 with h2 | h2
    · exact h2
    · omega
  have hF1 : ∀ b ∈ F1, 0 < len ∧ b = s.blk := fun b hb => by
    simp only [F1] at hb
    split at hb
    · cases hb
    · simp at hb; exact ⟨by omega, hb⟩
  have hent : EntAt (.ro wd len fun i => g0 (row + i)) (fun j => if j = n then L else ρ j) (lt (n + 1)) L F1 w := by
    by_cases h0 : len = 0
    · exact .inl ⟨h0, by simp [F1, h0]⟩
    · have hpos : 0 < len := by omega
      refine .inr ⟨(hblk hpos).1, by simp [F1, h0, L], fun i hi => ?_⟩
      obtain ⟨e1, e2, e3⟩ := (hblk hpos).2.2 (row + i) (by omega)
      refine ⟨e1, e2, fun c hc => ?_⟩
      rw [hadr, adr_add, hd hpos, Nat.sub_zero, ← e3 c hc]
      congr 2
      rw [Nat.add_mul]; omega
  have g2 := g.put_ro (.ro wd len fun i => g0 (row + i)) L F1 rfl hent (fun b hb => by
      obtain ⟨h1, rfl⟩ := hF1 b hb
      exact g.hm.sz k _ hk _ (by rw [(hblk h1).2.1]; simp)) (fun k' e' hk' ho b hb hb' => by
      obtain ⟨h1, rfl⟩ := hF1 b hb'
      have hne : k' ≠ k := fun e => by
        subst e; rw [hk] at hk'; cases hk'; cases ho
      exact g.hm.dj k' k e' _ hk' hk hne ho _ hb (by rw [(hblk h1).2.1]; simp)) (fun b hb => by
      obtain ⟨h1, rfl⟩ := hF1 b hb
      exact g.fx k _ hk _ (by rw [(hblk h1).2.1]; simp))
  have hval : (LV.s n wd 0 len 0).at (fun j => if j = n then L else ρ j) = (LV.s k wd row len d).at ρ := by
    simp only [LV.at, if_true]
    show (if s.nil then _ else _) = if s.nil then _ else _
    split
    · rfl
    · rw [hadr, dof0, show (0 - 0) * wd = 0 by simp]
      rfl
  have key := he.2 G' hG' _ _ w g2 (fun x hx => by
    rcases List.mem_append.1 hx with hx | hx
    · exact AV.ok_mono hρ (fun k hk => Nat.lt_succ_of_lt hk) (hok x (List.mem_append.2 (.inl hx)))
    · rcases List.mem_cons.1 hx with rfl | hx
      · refine ⟨Nat.lt_succ_self n, fun hh => hn1 (by have : L.nil = true := (by simpa using hh); exact this), fun hh => ⟨?_, .inl (dof0 _ _), Nat.le_refl _⟩⟩
        have hh : s.nil = false := by simpa using hh
        have h4 : row + len ≤ s.cap := (hn2 hh).1
        simp only [if_true]
        show 0 + len ≤ s.cap - row
        omega
      · exact AV.ok_mono hρ (fun k hk => Nat.lt_succ_of_lt hk) (hok x (List.mem_append.2 (.inr (List.mem_cons_of_mem _ hx)))))
  have e1 : (xs ++ AV.l (.s n wd 0 len 0) :: ys).map (AV.at fun j => if j = n then L else ρ j) = (xs ++ AV.l (.s k wd row len d) :: ys).map (AV.at ρ) := by
    simp only [List.map_append, List.map_cons]
    rw [List.map_congr_left fun x hx => AV.at_mono hρ (hok x (List.mem_append.2 (.inl hx))), List.map_congr_left fun x hx => AV.at_mono hρ (hok x (List.mem_append.2 (.inr (List.mem_cons_of_mem _ hx))))]
    rw [show (AV.l (.s n wd 0 len 0)).at (fun j => if j = n then L else ρ j) = (AV.l (.s k wd row len d)).at ρ from hval]
  rw [e1] at key
  refine key.mono fun e w' ⟨x, u, n', ρ', φ', h1, h2, h3, h4, h5, h6⟩ => ⟨x, _, n', ρ', φ', h1, h2, Nat.le_of_succ_le h3, fun k hk => ?_, by simpa using h5, h6⟩
  rw [h4 k (Nat.lt_succ_of_lt hk)]
  exact hρ k hk
theorem call_sub_at {G : Ctx} {f : FuncId} {xs : List AV} {h : Heap} {n : Nat} {K : SV → Heap → Nat → Prop} (i : Nat) {k wd row len d m : Nat} {g0 : Nat → List Value} (hx : nth xs i = some (.l (.s k wd row len d)))
    (hk : hget h k = some (.ro wd m g0)) (hm : row + len ≤ m)
    (he : CallP G f (setL xs i (.l (.s n wd 0 len 0))) ((n, some (.ro wd len fun i => g0 (row + i))) :: h) (n + 1) fun x u n' => K x (u ++ [(n, some (.ro wd len fun i => g0 (row + i)))]) n') : CallP G f xs h n K := by
  obtain ⟨e1, e2⟩ := split_nth (y := AV.l (.s n wd 0 len 0)) hx
  rw [e2] at he
  rw [e1]
  exact call_sub hk hm he
theorem callD_sub_at {G : Ctx} {f : FuncId} {xs : List AV} {h : Heap} {n : Nat} {K : SV → Heap → Nat → Prop} (i : Nat) {k wd row len d m : Nat} {g0 : Nat → List Value} (hx : nth xs i = some (.l (.s k wd row len d)))
    (hk : hget h k = some (.ro wd m g0)) (hm : row + len ≤ m)
    (he : CallD G f (setL xs i (.l (.s n wd 0 len 0))) ((n, some (.ro wd len fun i => g0 (row + i))) :: h) (n + 1) fun x u n' => K x (u ++ [(n, some (.ro wd len fun i => g0 (row + i)))]) n') : CallD G f xs h n K := by
  rw [CallD_eq] at he ⊢
  obtain ⟨x, u, n', h1, h2⟩ := he
  refine ⟨x, _, n', call_sub_at i hx hk hm ?_, h2⟩
  rw [CallP_eq] at h1 ⊢
  refine ⟨h1.1, fun G' hG' ρ φ w g hok => (h1.2 G' hG' ρ φ w g hok).mono fun e w' ⟨x', u', m', ρ', φ', e1, ⟨e2, e3, e4⟩, e5⟩ => ⟨x', u', m', ρ', φ', e1, ⟨e2, by rw [e3], e4⟩, e5⟩⟩
theorem int_fin {l : Nat → Nat} {k : IntKind} {a b : Int} (h : a = b) : packR ([] ++ [AV.l (LV.v (Value.int k a))]) = SV.ren l (sInt k b) := by subst h; rfl
def nilQ : Loc := { blk := 0, off := 0, cap := 0, nil := true, sub := fun p => match p with | [] => ⟨0, 0, 0, true, none, true⟩ | _ :: _ => ⟨0, 0, 0, true, none, false⟩ }
theorem gm_nild {G : Ctx} {h : Heap} {n : Nat} {ρ : Env} {φ : Nat → List Nat} {w : World} (g : GM G h (lt n) ρ φ w) (wd : Nat) (f : Nat → Nat → DV) :
    GM G ((n, some (.dp true (.sl wd 0 f))) :: h) (lt (n + 1)) (fun k => if k = n then nilQ else ρ k) (fun k => if k = n then [] else φ k) w :=
  GM.put g n (.dp true (.sl wd 0 f)) [] (fun k hk => by simp only [lt] at hk; simp [Nat.ne_of_lt hk]) (fun k hk => Nat.lt_succ_of_lt hk) (Nat.lt_succ_self n) (fun _ _ _ _ _ _ => rfl)
    (by
      simp only [if_true]
      refine ⟨rfl, wd, 0, f, [], [], rfl, rfl, fun _ => ⟨fun b hb => (by cases hb), .inl ⟨rfl, rfl, rfl⟩⟩, fun p => ?_, fun p i c hp => (by cases hp)⟩
      cases p with
      | nil =>
        intro wd' n' f' _ hd
        simp only [dvNode, DV.sl.injEq] at hd
        obtain ⟨rfl, rfl, rfl⟩ := hd
        exact ⟨fun _ => rfl, fun _ => Nat.zero_le _, fun i hi => absurd hi (Nat.not_lt_zero _)⟩
      | cons x p => intro wd' n' f' ht; cases ht) (fun b hb => by cases hb) (fun _ _ _ _ _ _ hb => by cases hb) (fun _ b hb => by cases hb) g.frm (Nat.le_refl _)
/-- A nil slice, from here on told as a deep slice of nothing. -/
theorem imp_nild {G : Ctx} {r : Regs} {h : Heap} {n : Nat} (t wd : Nat) (f : Nat → Nat → DV) (ht : rget r t = some (.o (.l (.v (.slice none 0 0))))) :
    Imp G r h n ((t, .o (.l (.fs n [] wd 0 0 0))) :: r) ((n, some (.dp true (.sl wd 0 f))) :: h) (n + 1) := by
  intro a w ⟨ρ, φ, g, hr, hsz, hdf⟩
  have hρ : ∀ k, lt n k → (fun k => if k = n then nilQ else ρ k) k = ρ k := fun k hk => by simp only [lt] at hk; simp [Nat.ne_of_lt hk]
  refine ⟨_, _, gm_nild g wd f, ?_, hsz, hdf⟩
  refine RM.renew (hr.mono hρ fun k hk => Nat.lt_succ_of_lt hk) ?_ ?_
  · rw [(hr t _ ht).1]
    simp [SV.at, AV.at, LV.at, nilQ, Loc0.loc]
  · simp [SV.ok, AV.ok, LV.ok, nilQ, Loc0.loc, lt]
end Go.Sx
