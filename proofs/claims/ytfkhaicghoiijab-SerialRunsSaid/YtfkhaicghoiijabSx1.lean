/- SerialJoins, SerialRuns: are jobs few? -/
import Derived.Test.YtfkhaicghoiijabSw
set_option linter.unusedSimpArgs false
set_option linter.unusedVariables false
namespace Go.Proofs.Ytfkhaicghoiijab
open Go Go.Sx

def cntJ (b : Jb) : Nat → Nat
  | 0 => 0
  | t + 1 => cntJ b t + b.nj t
def fewT (b : Jb) (t j : Nat) : Bool := decide (cntJ b t + (j + 1) ≤ 60) && decide (b.nd t j ≤ 70)
def smallB (b : Jb) : Bool := allB (fun t => allB (fewT b t) (b.nj t)) b.n && decide (b.n ≤ 12)
/-- A case that has jobs alone. -/
def caseC (j : LV) : List LV := [.v (.int .i64 0), .v (.slice none 0 0), .v (.int .u32 0), .v (.int .i64 0), .v (.int .i64 0), .v (.int .i64 0), .v (.int .i64 0), .v (.int .i64 0), j] ++ cellsC (fun _ => 0) ++ [.v (.slice none 0 0)]
theorem cntJ_mono (b : Jb) : ∀ t s, t ≤ s → cntJ b t ≤ cntJ b s
  | t, 0, h => by obtain rfl : t = 0 := by omega
                  exact Nat.le_refl _
  | t, s + 1, h => by
    by_cases e : t = s + 1
    · subst e; exact Nat.le_refl _
    · have := cntJ_mono b t s (by omega)
      simp only [cntJ]; omega
set_option maxHeartbeats 1000000 in
theorem small_spec (b : Jb) (hb : b.small) : FSpec Try.prog 9 [(0, some (.dp false (jobsD b)))] 1 [.a (caseC (.fs 0 [] 1 0 b.n 0)), .l (.v (.int .i64 0))] fun x h n => x = sBool (smallB b) ∧ n = 1 ∧ h = [] := by
  obtain ⟨hb1, hb2, hb3⟩ := hb
  refine spec_of_ev Try.func9 ic9_eq (rs := [.t 4]) (by kernel_rfl) (by kernel_rfl) (by kernel_rfl) fun G hP hA => ?_
  unfold evF ic9
  conv => whnf
  refine loop_auto (α := Nat) (ds := []) (N := 2) (fun t => [(5, sInt .i64 (cntJ b t : Int)), (13, sInt .i64 (t : Int))]) [] (fun _ => [])
    (fun t => t ≤ b.n ∧ cntJ b t ≤ 60 ∧ allB (fun t => allB (fewT b t) (b.nj t)) t = true) (fun t => b.n - t) 0 ⟨Nat.zero_le _, Nat.zero_le _, rfl⟩ ?_ fun t ht => ?_
  · (conv => whnf); (refine imp_auto hA ?_; conv => whnf); exact ⟨rfl, rfl, rfl, (by repeat' (first | exact trivial | exact rfl | apply And.intro)), (by repeat' (first | exact trivial | exact rfl | (intro _ _; exact rfl) | (intro _ hj; exact absurd hj (Nat.not_lt_zero _)) | exact Nat.le_refl _ | exact Or.inl (Or.inl (And.intro (fun h => h) rfl)) | apply And.intro)), rfl⟩
  · obtain ⟨ht0, ht1, ht2⟩ := ht
    have hnt : nadd 0 ((t : Nat) : Int).toNat = t := by simp [nadd_eq]
    have bad : ∀ j, t < b.n → j < b.nj t → fewT b t j = false → smallB b = false := fun j h1 h2 hf => by
      rw [Bool.eq_false_iff]
      intro hh
      simp only [smallB, Bool.and_eq_true, allB_iff] at hh
      rw [hh.1 t h1 j h2] at hf
      cases hf
    conv => whnf
    refine dsplit (fun h1 => ?_) (fun h1 => ?_)
    · have htn : t < b.n := by omega
      have hnj := hb2 t htn
      conv => whnf
      (repeat' (first | (refine And.intro (by (first | omega | assumption | (simp only [nadd_eq]; omega) | (simp [nadd_eq]; omega))) ?_; conv => whnf) | (refine arI64 (by omega) (by omega) ?_; conv => whnf) | (refine arU32 (by omega) (by omega) ?_; conv => whnf) | (refine arU8 (by omega) (by omega) ?_; conv => whnf)))
      refine loop_auto (α := Nat) (ds := []) (N := 2) (fun j => [(5, sInt .i64 ((cntJ b t + j : Nat) : Int)), (19, sInt .i64 (j : Int))]) [] (fun _ => [])
        (fun j => j ≤ b.nj t ∧ cntJ b t + j ≤ 60 ∧ allB (fewT b t) j = true) (fun j => b.nj t - j) 0 ⟨Nat.zero_le _, ht1, rfl⟩ ?_ fun j hj => ?_
      · (conv => whnf); (refine imp_auto hA ?_; conv => whnf); exact ⟨rfl, rfl, rfl, (by repeat' (first | exact trivial | exact rfl | apply And.intro)), (by repeat' (first | exact trivial | exact rfl | (intro _ _; exact rfl) | (intro _ hj; exact absurd hj (Nat.not_lt_zero _)) | exact Nat.le_refl _ | exact Or.inl (Or.inl (And.intro (fun h => h) rfl)) | apply And.intro)), rfl⟩
      · obtain ⟨hj0, hj1, hj2⟩ := hj
        have hnj2 : nadd 0 ((j : Nat) : Int).toNat = j := by simp [nadd_eq]
        conv => whnf
        refine dsplit (fun h2 => ?_) (fun h2 => ?_)
        · replace h2 : (j : Int) < (b.nj t : Int) := h2
          have hjn : j < b.nj t := by omega
          conv => whnf
          (repeat' (first | (refine And.intro (by (first | omega | assumption | (simp only [nadd_eq]; omega) | (simp [nadd_eq]; omega))) ?_; conv => whnf) | (refine arI64 (by omega) (by omega) ?_; conv => whnf) | (refine arU32 (by omega) (by omega) ?_; conv => whnf) | (refine arU8 (by omega) (by omega) ?_; conv => whnf)))
          refine dsplit (fun h3 => ?_) (fun h3 => ?_)
          · conv => whnf
            (refine fin_auto ?_; conv => whnf); refine ⟨rfl, rfl, rfl, bool_fin ?_, (by repeat' (first | exact trivial | exact rfl | (intro _ _; exact rfl) | (intro _ hj; exact absurd hj (Nat.not_lt_zero _)) | exact Nat.le_refl _ | exact Or.inl (Or.inl (And.intro (fun h => h) rfl)) | apply And.intro)), rfl⟩
            exact (bad j htn hjn (by unfold fewT; rw [show decide (cntJ b t + (j + 1) ≤ 60) = false by rw [decide_eq_false_iff_not]; omega]; rfl)).symm
          · conv => whnf
            refine dsplit (fun h4 => ?_) (fun h4 => ?_)
            · replace h4 : 70 < (b.nd t j : Int) := h4
              conv => whnf
              (refine fin_auto ?_; conv => whnf); refine ⟨rfl, rfl, rfl, bool_fin ?_, (by repeat' (first | exact trivial | exact rfl | (intro _ _; exact rfl) | (intro _ hj; exact absurd hj (Nat.not_lt_zero _)) | exact Nat.le_refl _ | exact Or.inl (Or.inl (And.intro (fun h => h) rfl)) | apply And.intro)), rfl⟩
              exact (bad j htn hjn (by unfold fewT; rw [show decide (b.nd t j ≤ 70) = false by rw [decide_eq_false_iff_not]; omega]; simp)).symm
            · replace h4 : ¬ 70 < (b.nd t j : Int) := h4
              conv => whnf
              (repeat' (first | (refine And.intro (by (first | omega | assumption | (simp only [nadd_eq]; omega) | (simp [nadd_eq]; omega))) ?_; conv => whnf) | (refine arI64 (by omega) (by omega) ?_; conv => whnf) | (refine arU32 (by omega) (by omega) ?_; conv => whnf) | (refine arU8 (by omega) (by omega) ?_; conv => whnf)))
              refine ⟨j + 1, ⟨by omega, by omega, ?_⟩, by omega, ?_⟩
              · simp only [allB, hj2, Bool.true_and, fewT, Bool.and_eq_true, decide_eq_true_eq]; omega
              (conv => whnf); (refine imp_auto hA ?_; conv => whnf); exact ⟨rfl, rfl, rfl, (by repeat' (first | exact trivial | exact rfl | apply And.intro)), (by repeat' (first | exact trivial | exact rfl | (intro _ _; exact rfl) | (intro _ hj; exact absurd hj (Nat.not_lt_zero _)) | exact Nat.le_refl _ | exact Or.inl (Or.inl (And.intro (fun h => h) rfl)) | apply And.intro)), rfl⟩
        · replace h2 : ¬ (j : Int) < (b.nj t : Int) := h2
          obtain rfl : j = b.nj t := by omega
          conv => whnf
          (repeat' (first | (refine And.intro (by (first | omega | assumption | (simp only [nadd_eq]; omega) | (simp [nadd_eq]; omega))) ?_; conv => whnf) | (refine arI64 (by omega) (by omega) ?_; conv => whnf) | (refine arU32 (by omega) (by omega) ?_; conv => whnf) | (refine arU8 (by omega) (by omega) ?_; conv => whnf)))
          refine ⟨t + 1, ⟨by omega, hj1, ?_⟩, by omega, ?_⟩
          · simp only [allB, ht2, hj2, Bool.true_and]
          (conv => whnf); (refine imp_auto hA ?_; conv => whnf); exact ⟨rfl, rfl, rfl, (by repeat' (first | exact trivial | exact rfl | apply And.intro)), (by repeat' (first | exact trivial | exact rfl | (intro _ _; exact rfl) | (intro _ hj; exact absurd hj (Nat.not_lt_zero _)) | exact Nat.le_refl _ | exact Or.inl (Or.inl (And.intro (fun h => h) rfl)) | apply And.intro)), rfl⟩
    · obtain rfl : t = b.n := by omega
      conv => whnf
      refine dsplit (fun h2 => ?_) (fun h2 => ?_)
      · conv => whnf
        (refine fin_auto ?_; conv => whnf); refine ⟨rfl, rfl, rfl, bool_fin ?_, (by repeat' (first | exact trivial | exact rfl | (intro _ _; exact rfl) | (intro _ hj; exact absurd hj (Nat.not_lt_zero _)) | exact Nat.le_refl _ | exact Or.inl (Or.inl (And.intro (fun h => h) rfl)) | apply And.intro)), rfl⟩
        simp only [smallB, ht2, Bool.true_and]
        rw [decide_eq_true (show b.n ≤ 12 by omega)]
        rfl
      · conv => whnf
        (refine fin_auto ?_; conv => whnf); refine ⟨rfl, rfl, rfl, bool_fin ?_, (by repeat' (first | exact trivial | exact rfl | (intro _ _; exact rfl) | (intro _ hj; exact absurd hj (Nat.not_lt_zero _)) | exact Nat.le_refl _ | exact Or.inl (Or.inl (And.intro (fun h => h) rfl)) | apply And.intro)), rfl⟩
        simp only [smallB, ht2, Bool.true_and]
        rw [decide_eq_false (show ¬ b.n ≤ 12 by omega)]
end Go.Proofs.Ytfkhaicghoiijab
