/- part -/
import Derived.Test.YtlkfolopbehikaaGreatMc
import Derived.Test.YtlkfolopbehikaaGreatSxZ
set_option linter.unusedSimpArgs false
set_option linter.unusedVariables false
set_option maxHeartbeats 8000000
set_option maxRecDepth 8000
set_option maxHeartbeats 8000000
namespace Go.Sx
open Go
theorem ZLl {G : Ctx} {h : Heap} {D : Nat -> Prop} {ρ : Env} {φ : Nat -> List Nat} {w : World} (g : GM G h D ρ φ w) {k wd m : Nat} {f : Nat -> List Value} (hk : hget h k = some (.ar wd m f)) (row : Nat) (hm : row <= m) :
  GM G ((k, some (.ar wd row f)) :: h) D ρ (fun j => if j = k then φ k else φ j) w := by
 refine g.put k _ (φ k) (fun _ _ => rfl) (fun _ hd => hd) (g.hm.lt k _ hk) (fun _ _ _ _ _ _ => rfl) ?_ (fun b hb => g.hm.sz k _ hk b hb) (fun k' e hk' hne b hb hb' => g.hm.dj k k' _ e hk hk' (Ne.symm hne) rfl b hb' hb) (fun _ b hb => g.ow k _ hk rfl b hb) g.frm (Nat.le_refl _) (fun hc => by cases hc)
 rcases g.hm.at_ k _ hk with ⟨h1, h2, h3⟩ | ⟨h1, h2, h3, h4, h5, cs, t, h6, h7, h8⟩
 ·exact .inl ⟨h1, by omega, h3⟩
 ·exact .inr ⟨h1, h2, h3, by omega, h5, cs, t, h6, h7, fun i hi => h8 i (by omega)⟩
theorem ZNb {G : Ctx} {ty el : TypeId} {t : Nat} {r : Regs} {h : Heap} {n : Nat} {K : SV -> Heap -> Nat -> Prop} {k row len d m : Nat} {f : Nat -> List Value} {zv : Value}
  (hs : G.P.underlying ty = some (.slice el)) (hz0 : ZB0 G.P el = some [zv]) (h1 : zv.oneCell' = true)
  (hv : rget r t = some (.o (.l (.s k 1 row len d)))) (hk : hget h k = some (.ar 1 m f)) (hm : row + len = m)
  (hK : K (.t []) [(k, some (.ar 1 row f))] n) : EscP G (.call { callee := .builtin .clear, args := #[(.tmp t)], argTypes := #[ty] }) r h n K := by
 rw [ZCw]
 intro G' hP o ρ φ a w ho g hr
 rw [<- hP] at hs hz0
 obtain ⟨i, zz, hi, hz, _, hzl⟩ := ZBJ hz0
 have hzc : zz.cells = #[zv] := by apply Array.ext'; simpa using hzl
 obtain ⟨h2, h3⟩ := ZAF hr (X := .tmp t) (x := .r t) rfl (v := .l (.s k 1 row len d)) (by simp only [oget, hv])
 have hx : a.eval (.tmp t) = (LV.s k 1 row len d).at ρ := h2
 refine .of_runs ?_
 have done : ∀ φ' w', GM G' ((k, some (.ar 1 row f)) :: h) (lt n) ρ φ' w' -> (execOp a.eval o).run G'.P w = .ok (.value (.tuple #[])) w' -> Runs G' o a h (lt n) n ρ w K := fun φ' w' hg he =>
  ⟨.t [], [(k, some (.ar 1 row f))], n, ρ, φ', w', hK, Nat.le_refl _, Nat.le_succ _, fun _ _ => rfl, hg.mono (fun _ _ => rfl) (ZBf _ n) (fun _ _ _ _ _ => rfl) hg.frm (Nat.le_refl _), by simp [SV.ok], .inl he⟩
 rcases g.hm.at_ k _ hk with ⟨h4, h5, h6⟩ | ⟨h4, h5, h6, h7, h8, cs, tc, h9, h10, h11⟩
 ·have hx' : a.eval (.tmp t) = .slice none 0 0 := by rw [hx]; simp [LV.at, h4]
  refine done _ _ (ZLl g hk row (by omega)) ?_
  simp [execOp, ho, resolve, invoke, builtin, hx', Builtin.clear_, run_underlying hs]
 ·have hx' : a.eval (.tmp t) = .slice (some (adr (ρ k) (row - dof (ρ k).cap row d))) len ((ρ k).cap - row) := by rw [hx]; simp [LV.at, h4]
  cases len with
  | zero =>
   refine done _ _ (ZLl g hk row (by omega)) ?_
   simp [execOp, ho, resolve, invoke, builtin, hx', Builtin.clear_, run_underlying hs]
  | succ len =>
   have hd : dof (ρ k).cap row d = 0 := by unfold dof; rw [if_pos (by omega)]
   have hst := run_storeCells_at G'.P (ρ k).blk row tc (List.replicate (len + 1) zv) 0 _ w h9 (by simp; omega) (by intro v hv'; rw [List.eq_of_mem_replicate hv']; exact h1)
   have hzs : (Builtin.zeroCells zz.cells (len + 1)).toList = List.replicate (len + 1) zv := by
    rw [hzc]
    simp [Builtin.zeroCells]
    apply List.ext_getElem
    ·simp
    ·intro i h1 h2
     simp [Nat.mod_one]
   have ha : adr (ρ k) (row - dof (ρ k).cap row d) = ⟨(ρ k).blk, row, none⟩ := by simp only [adr, hd, h5, Nat.sub_zero, Nat.zero_add, ite_self]
   rw [ha] at hx'
   obtain ⟨nw, hnw⟩ : ∃ nw, nw = (cs.toList.take (row + 0) ++ List.replicate (len + 1) zv ++ cs.toList.drop (row + 0 + (List.replicate (len + 1) zv).length)).toArray := ⟨_, rfl⟩
   rw [<- hnw] at hst
   have hns : nw.size = cs.size := by rw [hnw]; simp; omega
   have hng : ∀ j, j < row -> nw[j]? = cs[j]? := fun j hj => by
    rw [hnw]
    rw [List.getElem?_toArray, List.append_assoc, List.getElem?_append_left (by simp; omega), List.getElem?_take]
    simp [hj]
   refine done (fun j => if j = k then [(ρ k).blk] else φ j) _ (g.write hk rfl h6 h9 (new := nw) (.inr ⟨h4, h5, rfl, by omega, h8, _, tc, setRow_heap w _ _ _ tc _ h9, by omega, fun i hi => ?_⟩)) ?_
   ·obtain ⟨h12, h13, h14⟩ := h11 i (by omega)
    exact ⟨h12, h13, fun j hj => by rw [hng _ (by omega)]; exact h14 j hj⟩
   ·simp [execOp, ho, resolve, invoke, builtin, hx', Builtin.clear_, run_underlying hs, ZBm hi hz, hzs, hst]
theorem ZQh {h : Heap} {D : Nat -> Prop} {ρ : Env} {φ : Nat -> List Nat} {w : World} (g : HM h D ρ φ w) {k : Nat} {cs cs' : List LV} (hk : hget h k = some (.st cs)) (h1 : cs'.map (LV.at ρ) = cs.map (LV.at ρ)) (h2 : ∀ x ∈ cs', x.ok ρ D) :
  HM ((k, some (.st cs')) :: h) D ρ φ w := by
 have old : ∀ j e, hget ((k, some (.st cs')) :: h) j = some e -> (j = k /\ e = .st cs') \/ (j ≠ k /\ hget h j = some e) := fun j e hj => by
  rw [ZAJ] at hj
  split at hj
  ·rename_i hh; cases hj; exact .inl ⟨hh.symm, rfl⟩
  ·rename_i hh; exact .inr ⟨Ne.symm hh, hj⟩
 have old2 : ∀ j e, hget ((k, some (.st cs')) :: h) j = some e -> ∃ e', hget h j = some e' /\ e'.own = e.own := fun j e hj => by
  rcases old j e hj with ⟨rfl, rfl⟩ | ⟨_, h4⟩
  ·exact ⟨_, hk, rfl⟩
  ·exact ⟨e, h4, rfl⟩
 refine ⟨fun j e hj => ?_, fun j e hj => ?_, fun j j' e e' hj hj' hjj ho b hb hb' => ?_, fun j e hj b hb => ?_⟩
 ·rcases old j e hj with ⟨rfl, rfl⟩ | ⟨_, h4⟩
  ·obtain ⟨h5, h6, h7, ⟨t, h8⟩, h9⟩ := g.at_ j _ hk
   exact ⟨h5, h6, h7, ⟨t, by rw [h1]; exact h8⟩, h2⟩
  ·exact g.at_ j e h4
 ·obtain ⟨e', h3, _⟩ := old2 j e hj; exact g.lt j e' h3
 ·obtain ⟨e1, h3, h4⟩ := old2 j e hj
  obtain ⟨e2, h5, _⟩ := old2 j' e' hj'
  exact g.dj j j' e1 e2 h3 h5 hjj (by rw [h4]; exact ho) b hb hb'
 ·obtain ⟨e', h3, _⟩ := old2 j e hj; exact g.sz j e' h3 b hb
theorem ZRz {h h' : Heap} {D : Nat -> Prop} {ρ : Env} {φ : Nat -> List Nat} {w : World} (g : HM h D ρ φ w) (he : ∀ j, hget h' j = hget h j) : HM h' D ρ φ w :=
 ⟨fun k e hk => g.at_ k e (by rw [<- he]; exact hk), fun k e hk => g.lt k e (by rw [<- he]; exact hk), fun k k' e e' hk hk' hkk ho => g.dj k k' e e' (by rw [<- he]; exact hk) (by rw [<- he]; exact hk') hkk ho, fun k e hk => g.sz k e (by rw [<- he]; exact hk)⟩
theorem ZAE.nil_cell {P : Program} {f : FuncId} {pre : Heap} {np : Nat} {args : List AV} {Q Q' : SV -> Heap -> Nat -> Prop} (h : ZAE P f pre np args Q)
  (hq : ∀ x h n, Q x h n -> ∃ k cs cs' wd g h', hget h k = some (.st cs) /\ k < n /\ (∀ ρ : Env, (ρ n).nil = true -> cs'.map (LV.at ρ) = cs.map (LV.at ρ)) /\ (∀ (ρ : Env) (D : Nat -> Prop), D n -> (ρ n).nil = true -> (∀ x ∈ cs, x.ok ρ D) -> ∀ x ∈ cs', x.ok ρ D) /\
   (∀ j, hget h' j = hget ((k, some (.st cs')) :: (n, some (.ar wd 0 g)) :: h) j) /\ Q' x h' (n + 1)) : ZAE P f pre np args Q' :=
 ⟨h.1, fun ρ φ w hm hok hgw hgf => (h.2 ρ φ w hm hok hgw hgf).mono fun e w' ⟨x, h', n', ρ', φ', he, hx, hnp, hρ, hm', hxok, hfr, how⟩ => by
  obtain ⟨k, cs, cs', wd, g, h2, h3, hkn, h4, h5, h6, h7⟩ := hq _ _ _ hx
  have hρ2 : ∀ k, lt n' k -> (fun k => if k = n' then nilL else ρ' k) k = ρ' k := fun k hk => by simp only [lt] at hk; simp [Nat.ne_of_lt hk]
  have hm2 := ZMS hm' wd g
  have hk2 : hget ((n', some (Ent.ar wd 0 g)) :: h') k = some (.st cs) := by rw [ZAJ, if_neg (by omega)]; exact h3
  have hcs := (hm2.at_ k _ hk2).2.2.2.2
  have hm3 := ZQh hm2 hk2 (h4 _ (by simp [nilL])) (h5 _ _ (Nat.lt_succ_self n') (by simp [nilL]) hcs)
  refine ⟨x, h2, n' + 1, fun k => if k = n' then nilL else ρ' k, fun k => if k = n' then [] else φ' k, ?_, h7, Nat.le_succ_of_le hnp, fun k hk => ?_, ZRz hm3 h6, SV.ok_mono hρ2 (fun k hk => Nat.lt_succ_of_lt hk) hxok, hfr, fun j e hj ho b hb => ?_⟩
  ·rw [he, SV.at_mono hρ2 hxok]
  ·rw [hρ2 k (Nat.lt_of_lt_of_le hk hnp)]; exact hρ k hk
  ·by_cases hk' : j = n'
   ·subst hk'; simp at hb
   ·simp only [hk', if_false] at hb
    rw [h6, ZAJ] at hj
    by_cases hjk : k = j
    ·subst hjk; exact how k _ h3 rfl b hb
    ·rw [if_neg hjk, ZAJ, if_neg (Ne.symm hk')] at hj
     exact how j e hj ho b hb⟩
end Go.Sx
