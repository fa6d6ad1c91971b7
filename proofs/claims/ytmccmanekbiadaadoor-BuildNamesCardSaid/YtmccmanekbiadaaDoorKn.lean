/- Locks: what can't be laid isn't built. -/
import Derived.Test.YtmccmanekbiadaaDoorKg
set_option linter.unusedSimpArgs false
set_option linter.unusedVariables false
namespace Go.Proofs.YtmccmanekbiadaaDoor
open Go Go.Sx

theorem buildNew_bad (h : Nat → Int) (m : Nat) (kind start slots pool budget glob loc e : Int) (a : Value) (M : Nat) (hs ws : Nat → Int) (he : e ≠ 0)
    (hly : FSpec Tryd.prog 21 [(0, some (planP (m : Int) 0 (fun _ => 0) fun _ => 0)), (1, some (.ro 1 m (numE h)))] 2 [.l (.p 0 0 0 0), confA kind 1 m start slots pool budget glob loc] fun x h' k =>
      x = .t [.l (.v a), .l (.v (.int .i64 e))] ∧ k = 2 ∧ h' = [(0, some (planP (m : Int) M hs ws))]) :
    FSpec Tryd.prog 15 [(0, some (.ro 1 m (numE h)))] 1 [confA kind 0 m start slots pool budget glob loc] fun x h' k =>
      x = .t [.l (.v .nilIface), .l (.v (.pointer none)), .l (.v (.int .i64 e))] ∧ k = 1 ∧ h' = [] := by
  have hpn := planNew_spec (m : Int) (fun _ => 0) fun _ => 0
  refine spec_of_ev Tryd.func15 ic15_eq (rs := [.t 2, .t 3, .t 4]) (by kernel_rfl) (by kernel_rfl) (by kernel_rfl) fun G hP hA => ?_
  unfold evF ic15
  conv => whnf
  (repeat' (first | (refine And.intro (by (first | omega | assumption | (simp only [nadd_eq]; omega) | (simp [nadd_eq]; omega))) ?_; conv => whnf) | (refine arI64 (by omega) (by omega) ?_; conv => whnf) | (refine arU32 (by omega) (by omega) ?_; conv => whnf) | (refine arU8 (by omega) (by omega) ?_; conv => whnf)))
  (refine call_auto hP (hpn) ?_; conv => whnf); (refine ⟨⟨rfl, rfl, rfl, (by repeat' (first | exact trivial | exact rfl | (intro _ _; exact rfl) | (intro _ hj; exact absurd hj (Nat.not_lt_zero _)) | exact Nat.le_refl _ | exact Or.inl (Or.inl (And.intro (fun h => h) rfl)) | exact Or.inl rfl | apply And.intro)), rfl, rfl⟩, ?_⟩; conv => whnf)
  (refine call_auto hP (hly) ?_; conv => whnf); (refine ⟨⟨rfl, rfl, rfl, (by repeat' (first | exact trivial | exact rfl | (intro _ _; exact rfl) | (intro _ hj; exact absurd hj (Nat.not_lt_zero _)) | exact Nat.le_refl _ | exact Or.inl (Or.inl (And.intro (fun h => h) rfl)) | exact Or.inl rfl | apply And.intro)), rfl, rfl⟩, ?_⟩; conv => whnf)
  refine dsplit (fun h1 => ?_) (fun h1 => absurd (show e ≠ 0 from he) h1)
  conv => whnf
  (refine fin_auto ?_; conv => whnf); exact ⟨rfl, rfl, rfl, rfl, (by repeat' (first | exact trivial | exact rfl | (intro _ _; exact rfl) | (intro _ hj; exact absurd hj (Nat.not_lt_zero _)) | exact Nat.le_refl _ | exact Or.inl (Or.inl (And.intro (fun h => h) rfl)) | exact Or.inl rfl | apply And.intro)), rfl⟩
end Go.Proofs.YtmccmanekbiadaaDoor
