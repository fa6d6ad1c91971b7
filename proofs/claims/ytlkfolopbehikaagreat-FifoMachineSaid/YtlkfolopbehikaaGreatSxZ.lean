/- part -/
import Derived.Test.YtlkfolopbehikaaGreatSxY
import Derived.Lib.LazyBuf
set_option linter.unusedSimpArgs false
namespace Go.Sx
open Go
theorem ZKU {G : Ctx} {ty el ty2 : TypeId} {t : Nat} {r : Regs} {h : Heap} {n : Nat} {K : SV -> Heap -> Nat -> Prop} {k wd row len d : Nat}
  (hs : G.P.underlying ty = some (.slice el)) (hv : rget r t = some (.o (.l (.s k wd row len d))))
  (hK : ∀ b : Bool, (b = true -> len = 0) -> K (ZAR b) [] n) : EscP G (.binOp .eql ty (.tmp t) (.const (.slice none 0 0)) ty2) r h n K := by
 rw [ZCw]
 intro G' hP o ρ φ a w ho g hr
 rw [<- hP] at hs
 obtain ⟨h1, h2⟩ := ZAF hr (X := .tmp t) (x := .r t) rfl (v := .l (.s k wd row len d)) (by simp only [oget, hv])
 have hx : a.eval (.tmp t) = (LV.s k wd row len d).at ρ := h1
 have hc : a.eval (.const (.slice none 0 0)) = .slice none 0 0 := rfl
 cases hh : (ρ k).nil with
 | true =>
  refine .of_runs (ZAL g (x := ZAR true) trivial (hK true fun _ => h2.2.1 hh) ?_)
  have hx' : a.eval (.tmp t) = .slice none 0 0 := by rw [hx]; simp [LV.at, hh]
  simp [execOp, ho, hx', hc, eqGuard, run_eql_slice_nil w ty el none 0 0 hs, ZAR, SV.at, AV.at, LV.at]
 | false =>
  refine .of_runs (ZAL g (x := ZAR false) trivial (hK false fun h => by cases h) ?_)
  have hx' : a.eval (.tmp t) = .slice (some (adr (ρ k) ((row - dof (ρ k).cap row d) * wd))) len ((ρ k).cap - row) := by rw [hx]; simp [LV.at, hh]
  simp [execOp, ho, hx', hc, eqGuard, run_eql_slice_nil w ty el _ _ _ hs, ZAR, SV.at, AV.at, LV.at]
theorem ZMS {h : Heap} {n : Nat} {ρ : Env} {φ : Nat -> List Nat} {w : World} (g : HM h (lt n) ρ φ w) (wd : Nat) (f : Nat -> List Value) :
  HM ((n, some (.ar wd 0 f)) :: h) (lt (n + 1)) (fun k => if k = n then nilL else ρ k) (fun k => if k = n then [] else φ k) w := by
 have hρ : ∀ k, lt n k -> (fun k => if k = n then nilL else ρ k) k = ρ k := fun k hk => by simp only [lt] at hk; simp [Nat.ne_of_lt hk]
 have old : ∀ k e, hget ((n, some (.ar wd 0 f)) :: h) k = some e -> (k = n /\ e = .ar wd 0 f) \/ (k ≠ n /\ hget h k = some e) := fun k e hk => by
  rw [ZAJ] at hk
  split at hk
  ·rename_i hh; cases hk; exact .inl ⟨hh.symm, rfl⟩
  ·rename_i hh; exact .inr ⟨Ne.symm hh, hk⟩
 refine ⟨fun k e hk => ?_, fun k e hk => ?_, fun k k' e e' hk hk' hkk ho b hb hb' => ?_, fun k e hk b hb => ?_⟩
 ·rcases old k e hk with ⟨rfl, rfl⟩ | ⟨h1, h2⟩
  ·simp only [if_true]; exact .inl ⟨rfl, rfl, rfl⟩
  ·simp only [h1, if_false]
   exact ZBl.mono hρ (fun k hk => Nat.lt_succ_of_lt hk) (fun _ _ => rfl) (g.at_ k e h2)
 ·rcases old k e hk with ⟨rfl, rfl⟩ | ⟨h1, h2⟩
  ·exact Nat.lt_succ_self _
  ·exact Nat.lt_succ_of_lt (g.lt k e h2)
 ·rcases old k e hk with ⟨rfl, rfl⟩ | ⟨h1, h2⟩
  ·simp at hb
  ·simp only [h1, if_false] at hb
   rcases old k' e' hk' with ⟨rfl, rfl⟩ | ⟨h3, h4⟩
   ·simp at hb'
   ·simp only [h3, if_false] at hb'
    exact g.dj k k' e e' h2 h4 hkk ho b hb hb'
 ·rcases old k e hk with ⟨rfl, rfl⟩ | ⟨h1, h2⟩
  ·simp at hb
  ·simp only [h1, if_false] at hb; exact g.sz k e h2 b hb
theorem ZAE.nil_ret {P : Program} {f : FuncId} {pre : Heap} {np : Nat} {args : List AV} {Q Q' : SV -> Heap -> Nat -> Prop} (h : ZAE P f pre np args Q)
  (hq : ∀ x h n, Q x h n -> Q' x h n \/ ∃ wd g x', (∀ ρ : Env, (ρ n).nil = true -> x'.at ρ = x.at ρ) /\ (∀ (ρ : Env) (D : Nat -> Prop), D n -> (ρ n).nil = true -> x.ok ρ D -> x'.ok ρ D) /\ Q' x' ((n, some (.ar wd 0 g)) :: h) (n + 1)) : ZAE P f pre np args Q' :=
 ⟨h.1, fun ρ φ w hm hok hgw hgf => (h.2 ρ φ w hm hok hgw hgf).mono fun e w' ⟨x, h', n', ρ', φ', he, hx, hnp, hρ, hm', hxok, hfr, how⟩ => by
  rcases hq _ _ _ hx with h1 | ⟨wd, g, x', h1, h2, h3⟩
  ·exact ⟨x, h', n', ρ', φ', he, h1, hnp, hρ, hm', hxok, hfr, how⟩
  ·have hρ2 : ∀ k, lt n' k -> (fun k => if k = n' then nilL else ρ' k) k = ρ' k := fun k hk => by simp only [lt] at hk; simp [Nat.ne_of_lt hk]
   refine ⟨x', (n', some (.ar wd 0 g)) :: h', n' + 1, fun k => if k = n' then nilL else ρ' k, fun k => if k = n' then [] else φ' k, ?_, h3, Nat.le_succ_of_le hnp, fun k hk => ?_, ZMS hm' wd g, ?_, hfr, fun k e hk ho b hb => ?_⟩
   ·rw [he, h1 _ (by simp [nilL]), SV.at_mono hρ2 hxok]
   ·rw [hρ2 k (Nat.lt_of_lt_of_le hk hnp)]; exact hρ k hk
   ·exact h2 _ _ (Nat.lt_succ_self n') (by simp [nilL]) (SV.ok_mono hρ2 (fun k hk => Nat.lt_succ_of_lt hk) hxok)
   ·by_cases hk' : k = n'
    ·subst hk'; simp at hb
    ·simp only [hk', if_false] at hb
     rw [ZAJ, if_neg (Ne.symm hk')] at hk
     exact how k e hk ho b hb⟩
theorem ZQf {n wd : Nat} (ρ : Env) (h : (ρ n).nil = true) : (SV.o (.l (.s n wd 0 0 0))).at ρ = (SV.o (.l (.v (.slice none 0 0)))).at ρ := by simp [SV.at, AV.at, LV.at, h]
theorem ZQg {n wd : Nat} (ρ : Env) (D : Nat -> Prop) (hD : D n) (h : (ρ n).nil = true) : (SV.o (.l (.s n wd 0 0 0))).ok ρ D := ⟨hD, fun _ => rfl, fun hh => by rw [h] at hh; cases hh⟩
theorem ZQL {l : Nat -> Nat} {a b : Bool} (h : a = b) : ZI1 ([] ++ [AV.l (LV.v (Value.bool a))]) = SV.ren l (ZAR b) := by subst h; rfl
theorem ZCE {f g : Nat -> List Value} {i : Nat} (hg : g 0 = f i) : ∀ j, j < i + 1 -> (if j < i then f j else g (j - i)) = f j := fun j hj => by
 by_cases h : j < i
 ·simp [h]
 ·obtain rfl : j = i := by omega
  simp [hg]
theorem nbsplit {kf kt : Prop} {b : Bool} (ht : b = false -> kt) (hf : b = true -> kf) : @Bool.rec (fun _ => Prop) kf kt (!b) := by cases b <;> simp_all
theorem ZRy {l : Nat -> Nat} {k : IntKind} {a b : Int} (h : a = b) : ZI1 ([] ++ [AV.l (LV.v (Value.int k a))]) = SV.ren l (sInt k b) := by subst h; rfl
end Go.Sx
