/- FifoOrder: the law's function. -/
import Derived.Test.YtfkhaicghoiijabFi
set_option linter.unusedSimpArgs false
set_option linter.unusedVariables false
namespace Go.Proofs.Ytfkhaicghoiijab
open Go Go.Sx

set_option maxRecDepth 8000 in
set_option maxHeartbeats 2000000 in
theorem forder_spec (n : Int) (k t a : Nat → Int) (b : Nat → Bool) (m : Nat) (hm : m ≤ maxLen) :
    FSpec Try.prog 7 [(0, some (.ro 4 m (entE k t a b)))] 1 [.l (.v (.int .i64 n)), .l (.s 0 4 0 m 0)] fun x h j => x = sBool true := by
  unfold maxLen at hm
  refine FSpec.mono (Q := fun x h k => x = sBool true ∧ k = 1 ∧ h = []) ?_ fun x h k hx => hx.1
  obtain ⟨w, hw, hw2⟩ := clamp_eq n
  refine spec_of_ev Try.func7 ic7_eq (rs := [.t 4]) (by kernel_rfl) (by kernel_rfl) (by kernel_rfl) fun G hP hA => ?_
  unfold evF ic7
  conv => whnf
  refine dsplit (fun h1 => ?_) (fun h1 => ?_)
  · conv => whnf
    (refine call_auto hP (awake_spec) ?_; conv => whnf); (refine ⟨⟨rfl, rfl, rfl, (by repeat' (first | exact trivial | exact rfl | (intro _ _; exact rfl) | (intro _ hj; exact absurd hj (Nat.not_lt_zero _)) | exact Nat.le_refl _ | exact Or.inl (And.intro (fun h => h) rfl) | apply And.intro)), rfl, rfl⟩, ?_⟩; conv => whnf)
    (refine fin_auto ?_; conv => whnf); exact ⟨rfl, rfl, rfl, rfl, (by repeat' (first | exact trivial | exact rfl | (intro _ _; exact rfl) | (intro _ hj; exact absurd hj (Nat.not_lt_zero _)) | exact Nat.le_refl _ | exact Or.inl (And.intro (fun h => h) rfl) | apply And.intro)), rfl⟩
  · have hc := check_spec n w hw hw2 k t a b m (by omega)
    have hl := cntN_le (okN w k t b) m
    have hlaw := law_in w k t b m
    generalize hcd : cntN (okN w k t b) m = c at *
    have hrf := ref_spec k t a b c (by omega)
    conv => whnf
    (refine call_auto hP (hc) ?_; conv => whnf); (refine ⟨⟨rfl, rfl, rfl, (by repeat' (first | exact trivial | exact rfl | (intro _ _; exact rfl) | (intro _ hj; exact absurd hj (Nat.not_lt_zero _)) | exact Nat.le_refl _ | exact Or.inl (And.intro (fun h => h) rfl) | apply And.intro)), rfl, rfl⟩, ?_⟩; conv => whnf)
    refine dsplit (fun h2 => absurd h2 (by omega)) (fun h2 => ?_)
    conv => whnf
    (repeat' (first | (refine And.intro (by (first | omega | assumption | (simp only [nadd_eq]; omega) | (simp [nadd_eq]; omega))) ?_; conv => whnf) | (refine arI64 (by omega) (by omega) ?_; conv => whnf) | (refine arU32 (by omega) (by omega) ?_; conv => whnf) | (refine arU8 (by omega) (by omega) ?_; conv => whnf)))
    (refine call_auto hP (hrf) ?_; conv => whnf); refine ⟨⟨rfl, rfl, rfl, ?_, rfl, rfl⟩, ?_⟩
    · exact And.intro (And.intro rfl (And.intro (show c ≤ m from hl) fun i hi => rfl)) (by repeat' (first | exact trivial | exact rfl | (intro _ _; exact rfl) | (intro _ hj; exact absurd hj (Nat.not_lt_zero _)) | exact Nat.le_refl _ | exact Or.inl (And.intro (fun h => h) rfl) | apply And.intro))
    conv => whnf
    refine loop_auto (α := Nat) (ds := []) (N := 2) (fun i => [(37, sInt .i64 (i : Int))]) [] (fun _ => [])
      (fun i => i ≤ c) (fun i => c - i) 0 (Nat.zero_le _) ?_ fun i hi => ?_
    · (conv => whnf); (refine imp_auto hA ?_; conv => whnf); exact ⟨rfl, rfl, rfl, (by repeat' (first | exact trivial | exact rfl | apply And.intro)), (by repeat' (first | exact trivial | exact rfl | (intro _ _; exact rfl) | (intro _ hj; exact absurd hj (Nat.not_lt_zero _)) | exact Nat.le_refl _ | exact Or.inl (And.intro (fun h => h) rfl) | apply And.intro)), rfl⟩
    · conv => whnf
      refine dsplit (fun h3 => ?_) (fun h3 => ?_)
      · conv => whnf
        (refine join_plain ?_; conv => whnf)
        (repeat' (first | (refine And.intro (by (first | omega | assumption | (simp only [nadd_eq]; omega) | (simp [nadd_eq]; omega))) ?_; conv => whnf) | (refine arI64 (by omega) (by omega) ?_; conv => whnf) | (refine arU32 (by omega) (by omega) ?_; conv => whnf) | (refine arU8 (by omega) (by omega) ?_; conv => whnf)))
        refine dsplit (fun h4 => ?_) (fun h4 => ?_)
        · conv => whnf
          (repeat' (first | (refine And.intro (by (first | omega | assumption | (simp only [nadd_eq]; omega) | (simp [nadd_eq]; omega))) ?_; conv => whnf) | (refine arI64 (by omega) (by omega) ?_; conv => whnf) | (refine arU32 (by omega) (by omega) ?_; conv => whnf) | (refine arU8 (by omega) (by omega) ?_; conv => whnf)))
          refine ⟨i + 1, by omega, by omega, ?_⟩
          (conv => whnf); (refine imp_auto hA ?_; conv => whnf); exact ⟨rfl, rfl, rfl, (by repeat' (first | exact trivial | exact rfl | apply And.intro)), (by repeat' (first | exact trivial | exact rfl | (intro _ _; exact rfl) | (intro _ hj; exact absurd hj (Nat.not_lt_zero _)) | exact Nat.le_refl _ | exact Or.inl (And.intro (fun h => h) rfl) | apply And.intro)), rfl⟩
        · have h5 : k i = 4 := Decidable.byContradiction h4
          obtain ⟨g1, g2, g3⟩ := hlaw i (by omega) h5
          have hq := queue_spec k t a b i (by omega)
          have hql := quJ_len k t i i
          conv => whnf
          refine loop_auto (α := Nat) (ds := []) (N := 3) (fun v => [(45, sInt .i64 (v : Int))]) [] (fun _ => [])
            (fun v => v ≤ 64) (fun v => 64 - v) 0 (Nat.zero_le _) ?_ fun v hv => ?_
          · (conv => whnf); (refine imp_auto hA ?_; conv => whnf); exact ⟨rfl, rfl, rfl, (by repeat' (first | exact trivial | exact rfl | apply And.intro)), (by repeat' (first | exact trivial | exact rfl | (intro _ _; exact rfl) | (intro _ hj; exact absurd hj (Nat.not_lt_zero _)) | exact Nat.le_refl _ | exact Or.inl (And.intro (fun h => h) rfl) | apply And.intro)), rfl⟩
          · have hla := last_spec k t a b v i (by omega)
            conv => whnf
            refine dsplit (fun h6 => ?_) (fun h6 => ?_)
            · conv => whnf
              (repeat' (first | (refine And.intro (by (first | omega | assumption | (simp only [nadd_eq]; omega) | (simp [nadd_eq]; omega))) ?_; conv => whnf) | (refine arI64 (by omega) (by omega) ?_; conv => whnf) | (refine arU32 (by omega) (by omega) ?_; conv => whnf) | (refine arU8 (by omega) (by omega) ?_; conv => whnf)))
              (refine call_auto hP (hla) ?_; conv => whnf); refine ⟨⟨rfl, rfl, rfl, ?_, rfl, rfl⟩, ?_⟩
              · exact And.intro (And.intro rfl (And.intro (show i ≤ c from hi) fun i hi => rfl)) (by repeat' (first | exact trivial | exact rfl | (intro _ _; exact rfl) | (intro _ hj; exact absurd hj (Nat.not_lt_zero _)) | exact Nat.le_refl _ | exact Or.inl (And.intro (fun h => h) rfl) | apply And.intro))
              conv => whnf
              refine dsplit (fun h7 => absurd h7 (g1 v)) (fun h7 => ?_)
              conv => whnf
              (repeat' (first | (refine And.intro (by (first | omega | assumption | (simp only [nadd_eq]; omega) | (simp [nadd_eq]; omega))) ?_; conv => whnf) | (refine arI64 (by omega) (by omega) ?_; conv => whnf) | (refine arU32 (by omega) (by omega) ?_; conv => whnf) | (refine arU8 (by omega) (by omega) ?_; conv => whnf)))
              refine ⟨v + 1, by omega, by omega, ?_⟩
              (conv => whnf); (refine imp_auto hA ?_; conv => whnf); exact ⟨rfl, rfl, rfl, (by repeat' (first | exact trivial | exact rfl | apply And.intro)), (by repeat' (first | exact trivial | exact rfl | (intro _ _; exact rfl) | (intro _ hj; exact absurd hj (Nat.not_lt_zero _)) | exact Nat.le_refl _ | exact Or.inl (And.intro (fun h => h) rfl) | apply And.intro)), rfl⟩
            · conv => whnf
              (repeat' (first | (refine And.intro (by (first | omega | assumption | (simp only [nadd_eq]; omega) | (simp [nadd_eq]; omega))) ?_; conv => whnf) | (refine arI64 (by omega) (by omega) ?_; conv => whnf) | (refine arU32 (by omega) (by omega) ?_; conv => whnf) | (refine arU8 (by omega) (by omega) ?_; conv => whnf)))
              (refine call_auto hP (hq) ?_; conv => whnf); refine ⟨⟨rfl, rfl, rfl, ?_, rfl, rfl⟩, ?_⟩
              · exact And.intro (And.intro rfl (And.intro (show i ≤ c from hi) fun i hi => rfl)) (by repeat' (first | exact trivial | exact rfl | (intro _ _; exact rfl) | (intro _ hj; exact absurd hj (Nat.not_lt_zero _)) | exact Nat.le_refl _ | exact Or.inl (And.intro (fun h => h) rfl) | apply And.intro))
              conv => whnf
              (refine drawP_intro (by rw [hP]; exact follows) (by kernel_rfl) ?_; conv => whnf)
              refine dsplit (fun h8 => absurd h8 (by omega)) (fun h8 => ?_)
              conv => whnf
              (repeat' (first | (refine And.intro (by (first | omega | assumption | (simp only [nadd_eq]; omega) | (simp [nadd_eq]; omega))) ?_; conv => whnf) | (refine arI64 (by omega) (by omega) ?_; conv => whnf) | (refine arU32 (by omega) (by omega) ?_; conv => whnf) | (refine arU8 (by omega) (by omega) ?_; conv => whnf)))
              refine dsplit (fun h9 => absurd g3 h9) (fun h9 => ?_)
              conv => whnf
              (repeat' (first | (refine And.intro (by (first | omega | assumption | (simp only [nadd_eq]; omega) | (simp [nadd_eq]; omega))) ?_; conv => whnf) | (refine arI64 (by omega) (by omega) ?_; conv => whnf) | (refine arU32 (by omega) (by omega) ?_; conv => whnf) | (refine arU8 (by omega) (by omega) ?_; conv => whnf)))
              refine ⟨i + 1, by omega, by omega, ?_⟩
              (conv => whnf); (refine imp_auto hA ?_; conv => whnf); exact ⟨rfl, rfl, rfl, (by repeat' (first | exact trivial | exact rfl | apply And.intro)), (by repeat' (first | exact trivial | exact rfl | (intro _ _; exact rfl) | (intro _ hj; exact absurd hj (Nat.not_lt_zero _)) | exact Nat.le_refl _ | exact Or.inl (And.intro (fun h => h) rfl) | apply And.intro)), rfl⟩
      · conv => whnf
        (refine call_auto hP (awake_spec) ?_; conv => whnf); (refine ⟨⟨rfl, rfl, rfl, (by repeat' (first | exact trivial | exact rfl | (intro _ _; exact rfl) | (intro _ hj; exact absurd hj (Nat.not_lt_zero _)) | exact Nat.le_refl _ | exact Or.inl (And.intro (fun h => h) rfl) | apply And.intro)), rfl, rfl⟩, ?_⟩; conv => whnf)
        (refine fin_auto ?_; conv => whnf); exact ⟨rfl, rfl, rfl, rfl, (by repeat' (first | exact trivial | exact rfl | (intro _ _; exact rfl) | (intro _ hj; exact absurd hj (Nat.not_lt_zero _)) | exact Nat.le_refl _ | exact Or.inl (And.intro (fun h => h) rfl) | apply And.intro)), rfl⟩
end Go.Proofs.Ytfkhaicghoiijab
