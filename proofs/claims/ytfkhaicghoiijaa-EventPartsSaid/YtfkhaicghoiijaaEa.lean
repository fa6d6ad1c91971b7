/- EventEncodes, EventParts: what is an event, and one byte. -/
import Derived.Test.YtfkhaicghoiijaaRd
import Derived.Test.YtfkhaicghoiijaaSxX
namespace Go.Proofs.Ytfkhaicghoiijaa
open Go Go.Sx

def rightE (k t w : Int) : Bool := if k = 2 then decide (t = 0) && decide (w = 0) else if k = 1 ∨ k = 4 then decide (0 ≤ t) && decide (t ≤ 31) && decide (w = 0) else decide (k = 3) && decide (0 ≤ t) && decide (t ≤ 31) && decide (-1 ≤ w) && decide (w ≤ 255)
def evL (k t w : Int) : AV := .a [.v (.int .i64 k), .v (.int .i64 t), .v (.int .i64 w)]
theorem rightE_iff {k t w : Int} : rightE k t w = true ↔ (k = 2 ∧ t = 0 ∧ w = 0) ∨ ((k = 1 ∨ k = 4) ∧ 0 ≤ t ∧ t ≤ 31 ∧ w = 0) ∨ (k = 3 ∧ 0 ≤ t ∧ t ≤ 31 ∧ -1 ≤ w ∧ w ≤ 255) := by
  unfold rightE
  split
  · simp; omega
  · split <;> simp <;> omega
theorem bool_fin {l : Nat → Nat} {a b : Bool} (h : a = b) : packR ([] ++ [AV.l (LV.v (Value.bool a))]) = SV.ren l (sBool b) := by subst h; rfl
theorem right_spec (k t w : Int) : FSpec Try.prog 12 [] 0 [evL k t w] fun x h m => x = sBool (rightE k t w) ∧ m = 0 ∧ h = [] := by
  refine spec_of_ev Try.func12 ic12_eq (rs := [.t 2]) (by kernel_rfl) (by kernel_rfl) (by kernel_rfl) fun G hP hA => ?_
  unfold evF ic12
  conv => whnf
  (repeat' (first | (refine join_plain ?_; conv => whnf) | (refine dsplit (fun _ => ?_) (fun _ => ?_) <;> conv => whnf)))
  all_goals ((refine fin_auto ?_; conv => whnf); refine ⟨rfl, rfl, rfl, bool_fin ?_, (by repeat' (first | exact trivial | exact rfl | (intro _ _; exact rfl) | (intro _ hj; exact absurd hj (Nat.not_lt_zero _)) | exact Nat.le_refl _ | exact Or.inl (And.intro (fun h => h) rfl) | apply And.intro)), rfl⟩)
  all_goals (rw [Bool.eq_iff_iff, rightE_iff]; simp only [xb, Bool.false_eq_true, Bool.and_eq_true, decide_eq_true_eq, false_iff]; omega)
theorem refRight_spec (k t w : Int) : FSpec Try.prog 14 [] 0 [evL k t w] fun x h m => x = sBool (rightE k t w) ∧ m = 0 ∧ h = [] := by
  refine spec_of_ev Try.func14 ic14_eq (rs := [.t 2]) (by kernel_rfl) (by kernel_rfl) (by kernel_rfl) fun G hP hA => ?_
  unfold evF ic14
  conv => whnf
  (repeat' (first | (refine join_plain ?_; conv => whnf) | (refine dsplit (fun _ => ?_) (fun _ => ?_) <;> conv => whnf)))
  all_goals ((refine fin_auto ?_; conv => whnf); refine ⟨rfl, rfl, rfl, bool_fin ?_, (by repeat' (first | exact trivial | exact rfl | (intro _ _; exact rfl) | (intro _ hj; exact absurd hj (Nat.not_lt_zero _)) | exact Nat.le_refl _ | exact Or.inl (And.intro (fun h => h) rfl) | apply And.intro)), rfl⟩)
  all_goals (rw [Bool.eq_iff_iff, rightE_iff]; simp only [Bool.false_eq_true, decide_eq_true_eq, false_iff]; omega)
end Go.Proofs.Ytfkhaicghoiijaa
