/- part -/
import Derived.Test.YtlkfolopbehikaaGreatSxS
set_option linter.unusedSimpArgs false
set_option linter.unusedVariables false
set_option linter.unusedSectionVars false
namespace Go.Sx
open Go
def nilL : Loc := { blk := 0, off := 0, cap := 0, nil := true }
theorem ZST {G : Ctx} {h : Heap} {n : Nat} {ρ : Env} {φ : Nat -> List Nat} {w : World} (g : GM G h (lt n) ρ φ w) (wd : Nat) (f : Nat -> List Value) :
  GM G ((n, some (.ar wd 0 f)) :: h) (lt (n + 1)) (fun k => if k = n then nilL else ρ k) (fun k => if k = n then [] else φ k) w :=
 GM.put g n (.ar wd 0 f) [] (fun k hk => by simp only [lt] at hk; simp [Nat.ne_of_lt hk]) (fun k hk => Nat.lt_succ_of_lt hk) (Nat.lt_succ_self n) (fun _ _ _ _ _ _ => rfl)
  (.inl ⟨by simp [nilL], rfl, rfl⟩) (fun b hb => by cases hb) (fun _ _ _ _ _ _ hb => by cases hb) (fun _ b hb => by cases hb) g.frm (Nat.le_refl _)
theorem ZRw {G : Ctx} {r : Regs} {h : Heap} {n : Nat} (t wd : Nat) (f : Nat -> List Value) (ht : rget r t = some (.o (.l (.v (.slice none 0 0))))) :
  Imp G r h n ((t, .o (.l (.s n wd 0 0 0))) :: r) ((n, some (.ar wd 0 f)) :: h) (n + 1) := by
 intro a w ⟨ρ, φ, g, hr, hsz, hdf⟩
 have hρ : ∀ k, lt n k -> (fun k => if k = n then nilL else ρ k) k = ρ k := fun k hk => by simp only [lt] at hk; simp [Nat.ne_of_lt hk]
 refine ⟨_, _, ZST g wd f, ?_, hsz, hdf⟩
 refine RM.renew (hr.mono hρ fun k hk => Nat.lt_succ_of_lt hk) ?_ ?_
 ·rw [(hr t _ ht).1]
  simp [SV.at, AV.at, LV.at, nilL]
 ·exact ⟨Nat.lt_succ_self n, fun _ => rfl, fun h => by simp [nilL] at h⟩
theorem ZGN {G : Ctx} {f : FuncId} {pre : Heap} {np : Nat} {args : List AV} {X : SV} {M : Nat} {H : Heap} (hsp : ZAE G.P f pre np args fun x h m => x = X /\ m = M /\ h = H) (l : List Nat) {xs : List AV} {h : Heap} {n : Nat} {K : SV -> Heap -> Nat -> Prop}
  (hnp : l.length = np) (hl : l.all (fun j => decide (j < n)) = true) (hxs : xs = args.map (AV.ren (ren1 l n))) (hpre : ZBB (ren1 l n) h pre) (hap : ZBv (ren1 l n) pre = true)
  (hpost : ZEv (ren2 l n) M H = true) (hK : K (X.ren (ren2 l n)) (renH (ren2 l n) H ++ tomb (ren1 l n) pre) (n + (M - np))) : CallP G f xs h n K :=
 ZNJ hsp l hnp hl hxs hpre hap fun x h' n' ⟨h1, h2, h3⟩ => by subst h1 h2 h3; exact ⟨hpost, hK⟩
theorem ZNS {G : Ctx} {f : FuncId} {pre : Heap} {np : Nat} {args : List AV} {X : SV} {M : Nat} {H : Heap} (hsp : ZAE G.P f pre np args fun x h m => x = X /\ m = M /\ h = H) (l : List Nat) {xs : List AV} {h : Heap} {n : Nat} {K : SV -> Heap -> Nat -> Prop}
  (hnp : l.length = np) (hl : l.all (fun j => decide (j < n)) = true) (hxs : xs = args.map (AV.ren (ren1 l n))) (hpre : ZBB (ren1 l n) h pre) (hap : ZBv (ren1 l n) pre = true)
  (hpost : ZEv (ren2 l n) M H = true) (hK : K (X.ren (ren2 l n)) (renH (ren2 l n) H ++ tomb (ren1 l n) pre) (n + (M - np))) : CallD G f xs h n K := by
 rw [ZGM]
 refine ⟨_, _, _, ZGN hsp l hnp hl hxs hpre hap hpost ⟨?_, ?_, ?_⟩, hK⟩ <;> rfl
end Go.Sx
