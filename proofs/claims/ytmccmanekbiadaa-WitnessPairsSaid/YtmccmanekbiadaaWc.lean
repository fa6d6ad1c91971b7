/- Witness*: pairs with homes; Overtakes, Within; awake. -/
import Derived.Test.YtmccmanekbiadaaWb
set_option linter.unusedSimpArgs false
set_option linter.unusedVariables false
namespace Go.Proofs.Ytmccmanekbiadaa
open Go Go.Sx

set_option maxHeartbeats 4000000 in
theorem pairsW_spec (k t a : Nat → Int) (b : Nat → Bool) (m : Nat) (hm : m ≤ 100) (h : Nat → Int) (N : Nat) (hN : N ≤ 1000) :
    FSpec Try.prog 51 ((0, some (.ro 4 m (entE k t a b))) :: capP h N 1) 4 [.l (.s 0 4 0 m 0), .l (.c 54 [1, 2])] fun r h' n =>
      r = sInt .i64 ((sumF k t (okW h N) m m : Nat) : Int) ∧ n = 4 ∧ h' = [(1, some (.st [.c 53 [2]])), (2, some (.st [.s 3 1 0 N 0]))] := by
  refine spec_of_ev Try.func51 ic51_eq (rs := [.t 4]) (by kernel_rfl) (by kernel_rfl) (by kernel_rfl) fun G hP hA => ?_
  unfold evF ic51
  conv => whnf
  refine loop_auto (α := Nat) (ds := []) (N := 4) (fun i => [(5, sInt .i64 ((sumF k t (okW h N) m i : Nat) : Int)), (14, sInt .i64 (i : Int))]) [] (fun _ => [(1, some (.st [.c 53 [2]])), (2, some (.st [.s 3 1 0 N 0]))])
    (fun i => i ≤ m) (fun i => m - i) 0 (Nat.zero_le _) ?_ fun i hi => ?_
  · (conv => whnf); (refine imp_auto hA ?_; conv => whnf); exact ⟨rfl, rfl, rfl, (by repeat' (first | exact trivial | exact rfl | apply And.intro)), (by repeat' (first | exact trivial | exact rfl | (intro _ _; exact rfl) | (intro _ hj; exact absurd hj (Nat.not_lt_zero _)) | exact Nat.le_refl _ | exact Or.inl (Or.inl (And.intro (fun h => h) rfl)) | exact Or.inl rfl | apply And.intro)), rfl⟩
  · have hni : nadd 0 ((i : Nat) : Int).toNat = i := by simp [nadd_eq]
    have hsl := sumF_le k t (okW h N) m hm i
    conv => whnf
    refine dsplit (fun h1 => ?_) (fun h1 => ?_)
    · conv => whnf
      (refine join_plain ?_; conv => whnf)
      (repeat' (first | (refine And.intro (by (first | omega | assumption | (simp only [nadd_eq]; omega) | (simp [nadd_eq]; omega))) ?_; conv => whnf) | (refine arI64 (by omega) (by omega) ?_; conv => whnf) | (refine arU32 (by omega) (by omega) ?_; conv => whnf) | (refine arU8 (by omega) (by omega) ?_; conv => whnf)))
      refine dsplit (fun h2 => ?_) (fun h2 => ?_)
      · replace h2 : ¬ k i = 2 := h2
        have hsi : sumF k t (okW h N) m (i + 1) = sumF k t (okW h N) m i := by rw [sumF, if_neg h2]; rfl
        conv => whnf
        (repeat' (first | (refine And.intro (by (first | omega | assumption | (simp only [nadd_eq]; omega) | (simp [nadd_eq]; omega))) ?_; conv => whnf) | (refine arI64 (by omega) (by omega) ?_; conv => whnf) | (refine arU32 (by omega) (by omega) ?_; conv => whnf) | (refine arU8 (by omega) (by omega) ?_; conv => whnf)))
        refine ⟨i + 1, by omega, by omega, ?_⟩
        rw [hsi]
        (conv => whnf); (refine imp_auto hA ?_; conv => whnf); exact ⟨rfl, rfl, rfl, (by repeat' (first | exact trivial | exact rfl | apply And.intro)), (by repeat' (first | exact trivial | exact rfl | (intro _ _; exact rfl) | (intro _ hj; exact absurd hj (Nat.not_lt_zero _)) | exact Nat.le_refl _ | exact Or.inl (Or.inl (And.intro (fun h => h) rfl)) | exact Or.inl rfl | apply And.intro)), rfl⟩
      · replace h2 : ¬ ¬ k i = 2 := h2
        have h2' : k i = 2 := by simpa using h2
        have hsi : sumF k t (okW h N) m (i + 1) = sumF k t (okW h N) m i + cntF (pairB k t (okW h N) m i) i m := by rw [sumF, if_pos h2']
        have hui := until_spec k t a b m i (t i) 4 5 (by omega) (by omega)
        have hcz := cntF_zero (pairB k t (okW h N) m i) i (i + 1) (Nat.le_refl _)
        conv => whnf
        (refine call_auto hP (hui) ?_; conv => whnf); (refine ⟨⟨rfl, rfl, rfl, (by repeat' (first | exact trivial | exact rfl | (intro _ _; exact rfl) | (intro _ hj; exact absurd hj (Nat.not_lt_zero _)) | exact Nat.le_refl _ | exact Or.inl (Or.inl (And.intro (fun h => h) rfl)) | exact Or.inl rfl | apply And.intro)), rfl, rfl⟩, ?_⟩; conv => whnf)
        (repeat' (first | (refine And.intro (by (first | omega | assumption | (simp only [nadd_eq]; omega) | (simp [nadd_eq]; omega))) ?_; conv => whnf) | (refine arI64 (by omega) (by omega) ?_; conv => whnf) | (refine arU32 (by omega) (by omega) ?_; conv => whnf) | (refine arU8 (by omega) (by omega) ?_; conv => whnf)))
        refine loop_auto (α := Nat) (ds := []) (N := 4 + 1) (fun j => [(5, sInt .i64 ((sumF k t (okW h N) m i + cntF (pairB k t (okW h N) m i) i j : Nat) : Int)), (9, sInt .i64 (j : Int))]) [] (fun _ => [(1, some (.st [.c 53 [2]])), (2, some (.st [.s 3 1 0 N 0]))])
          (fun j => i + 1 ≤ j ∧ j ≤ m) (fun j => m - j) (i + 1) ⟨Nat.le_refl _, by omega⟩ ?_ fun j hj => ?_
        · rw [hcz, Nat.add_zero]
          (conv => whnf); (refine imp_auto hA ?_; conv => whnf); exact ⟨rfl, rfl, rfl, (by repeat' (first | exact trivial | exact rfl | apply And.intro)), (by repeat' (first | exact trivial | exact rfl | (intro _ _; exact rfl) | (intro _ hj; exact absurd hj (Nat.not_lt_zero _)) | exact Nat.le_refl _ | exact Or.inl (Or.inl (And.intro (fun h => h) rfl)) | exact Or.inl rfl | apply And.intro)), rfl⟩
        · have hnj : nadd 0 ((j : Nat) : Int).toNat = j := by simp [nadd_eq]
          have hcl := cntF_le (pairB k t (okW h N) m i) i j
          conv => whnf
          refine dsplit (fun h3 => ?_) (fun h3 => ?_)
          · have huj := until_spec k t a b m j (t j) 4 4 (by omega) (by omega)
            have hok := ok_spec h N (t i) (t j) hN
            conv => whnf
            (refine join_plain ?_; conv => whnf)
            (repeat' (first | (refine And.intro (by (first | omega | assumption | (simp only [nadd_eq]; omega) | (simp [nadd_eq]; omega))) ?_; conv => whnf) | (refine arI64 (by omega) (by omega) ?_; conv => whnf) | (refine arU32 (by omega) (by omega) ?_; conv => whnf) | (refine arU8 (by omega) (by omega) ?_; conv => whnf)))
            refine dsplit (fun h4 => ?_) (fun h4 => ?_)
            · replace h4 : ¬ k j = 1 := h4
              have hp : pairB k t (okW h N) m i j = false := by unfold pairB; rw [decide_eq_false h4]; rfl
              have hcs : cntF (pairB k t (okW h N) m i) i (j + 1) = cntF (pairB k t (okW h N) m i) i j := by rw [cntF, if_neg (by simp [hp])]; rfl
              conv => whnf
              (repeat' (first | (refine And.intro (by (first | omega | assumption | (simp only [nadd_eq]; omega) | (simp [nadd_eq]; omega))) ?_; conv => whnf) | (refine arI64 (by omega) (by omega) ?_; conv => whnf) | (refine arU32 (by omega) (by omega) ?_; conv => whnf) | (refine arU8 (by omega) (by omega) ?_; conv => whnf)))
              refine ⟨j + 1, by omega, by omega, ?_⟩
              rw [hcs]
              (conv => whnf); (refine imp_auto hA ?_; conv => whnf); exact ⟨rfl, rfl, rfl, (by repeat' (first | exact trivial | exact rfl | apply And.intro)), (by repeat' (first | exact trivial | exact rfl | (intro _ _; exact rfl) | (intro _ hj; exact absurd hj (Nat.not_lt_zero _)) | exact Nat.le_refl _ | exact Or.inl (Or.inl (And.intro (fun h => h) rfl)) | exact Or.inl rfl | apply And.intro)), rfl⟩
            · replace h4 : ¬ ¬ k j = 1 := h4
              have h4' : k j = 1 := by simpa using h4
              conv => whnf
              refine dsplit (fun h5 => ?_) (fun h5 => ?_)
              · replace h5 : t j = t i := h5
                have hp : pairB k t (okW h N) m i j = false := by unfold pairB; rw [decide_eq_true h5, Bool.not_true, Bool.false_and, Bool.and_false]
                have hcs : cntF (pairB k t (okW h N) m i) i (j + 1) = cntF (pairB k t (okW h N) m i) i j := by rw [cntF, if_neg (by simp [hp])]; rfl
                conv => whnf
                (repeat' (first | (refine And.intro (by (first | omega | assumption | (simp only [nadd_eq]; omega) | (simp [nadd_eq]; omega))) ?_; conv => whnf) | (refine arI64 (by omega) (by omega) ?_; conv => whnf) | (refine arU32 (by omega) (by omega) ?_; conv => whnf) | (refine arU8 (by omega) (by omega) ?_; conv => whnf)))
                refine ⟨j + 1, by omega, by omega, ?_⟩
                rw [hcs]
                (conv => whnf); (refine imp_auto hA ?_; conv => whnf); exact ⟨rfl, rfl, rfl, (by repeat' (first | exact trivial | exact rfl | apply And.intro)), (by repeat' (first | exact trivial | exact rfl | (intro _ _; exact rfl) | (intro _ hj; exact absurd hj (Nat.not_lt_zero _)) | exact Nat.le_refl _ | exact Or.inl (Or.inl (And.intro (fun h => h) rfl)) | exact Or.inl rfl | apply And.intro)), rfl⟩
              · replace h5 : ¬ t j = t i := h5
                conv => whnf
                cases hokv : okW h N (t i) (t j)
                · rw [hokv] at hok
                  have hp : pairB k t (okW h N) m i j = false := by unfold pairB; rw [hokv, Bool.false_and, Bool.and_false, Bool.and_false]
                  have hcs : cntF (pairB k t (okW h N) m i) i (j + 1) = cntF (pairB k t (okW h N) m i) i j := by rw [cntF, if_neg (by simp [hp])]; rfl
                  (refine call_auto hP (hok) ?_; conv => whnf); (refine ⟨⟨rfl, rfl, rfl, (by repeat' (first | exact trivial | exact rfl | (intro _ _; exact rfl) | (intro _ hj; exact absurd hj (Nat.not_lt_zero _)) | exact Nat.le_refl _ | exact Or.inl (Or.inl (And.intro (fun h => h) rfl)) | exact Or.inl rfl | apply And.intro)), rfl, rfl⟩, ?_⟩; conv => whnf)
                  (repeat' (first | (refine And.intro (by (first | omega | assumption | (simp only [nadd_eq]; omega) | (simp [nadd_eq]; omega))) ?_; conv => whnf) | (refine arI64 (by omega) (by omega) ?_; conv => whnf) | (refine arU32 (by omega) (by omega) ?_; conv => whnf) | (refine arU8 (by omega) (by omega) ?_; conv => whnf)))
                  refine ⟨j + 1, by omega, by omega, ?_⟩
                  rw [hcs]
                  (conv => whnf); (refine imp_auto hA ?_; conv => whnf); exact ⟨rfl, rfl, rfl, (by repeat' (first | exact trivial | exact rfl | apply And.intro)), (by repeat' (first | exact trivial | exact rfl | (intro _ _; exact rfl) | (intro _ hj; exact absurd hj (Nat.not_lt_zero _)) | exact Nat.le_refl _ | exact Or.inl (Or.inl (And.intro (fun h => h) rfl)) | exact Or.inl rfl | apply And.intro)), rfl⟩
                rw [hokv] at hok
                (refine call_auto hP (hok) ?_; conv => whnf); (refine ⟨⟨rfl, rfl, rfl, (by repeat' (first | exact trivial | exact rfl | (intro _ _; exact rfl) | (intro _ hj; exact absurd hj (Nat.not_lt_zero _)) | exact Nat.le_refl _ | exact Or.inl (Or.inl (And.intro (fun h => h) rfl)) | exact Or.inl rfl | apply And.intro)), rfl, rfl⟩, ?_⟩; conv => whnf)
                (refine call_auto hP (huj) ?_; conv => whnf); (refine ⟨⟨rfl, rfl, rfl, (by repeat' (first | exact trivial | exact rfl | (intro _ _; exact rfl) | (intro _ hj; exact absurd hj (Nat.not_lt_zero _)) | exact Nat.le_refl _ | exact Or.inl (Or.inl (And.intro (fun h => h) rfl)) | exact Or.inl rfl | apply And.intro)), rfl, rfl⟩, ?_⟩; conv => whnf)
                refine dsplit (fun h6 => ?_) (fun h6 => ?_)
                · conv => whnf
                  refine dsplit (fun h7 => ?_) (fun h7 => ?_)
                  · have hp : pairB k t (okW h N) m i j = true := by
                      unfold pairB; rw [decide_eq_true h4', decide_eq_false h5, hokv, decide_eq_true (by omega), decide_eq_true (by omega)]; rfl
                    have hcs : cntF (pairB k t (okW h N) m i) i (j + 1) = cntF (pairB k t (okW h N) m i) i j + 1 := by rw [cntF, if_pos ⟨by omega, hp⟩]
                    conv => whnf
                    (repeat' (first | (refine And.intro (by (first | omega | assumption | (simp only [nadd_eq]; omega) | (simp [nadd_eq]; omega))) ?_; conv => whnf) | (refine arI64 (by omega) (by omega) ?_; conv => whnf) | (refine arU32 (by omega) (by omega) ?_; conv => whnf) | (refine arU8 (by omega) (by omega) ?_; conv => whnf)))
                    refine ⟨j + 1, by omega, by omega, ?_⟩
                    rw [hcs]
                    (conv => whnf); (refine imp_auto hA ?_; conv => whnf); exact ⟨rfl, rfl, rfl, (by repeat' (first | exact trivial | exact rfl | apply And.intro)), (by repeat' (first | exact trivial | exact rfl | (intro _ _; exact rfl) | (intro _ hj; exact absurd hj (Nat.not_lt_zero _)) | exact Nat.le_refl _ | exact Or.inl (Or.inl (And.intro (fun h => h) rfl)) | exact Or.inl rfl | apply And.intro)), rfl⟩
                  · have hp : pairB k t (okW h N) m i j = false := by
                      unfold pairB; rw [show decide (untilF (hitB k t (t j) 4 4) m (j + 1) < untilF (hitB k t (t i) 4 5) m (i + 1)) = false from decide_eq_false (by omega)]; simp
                    have hcs : cntF (pairB k t (okW h N) m i) i (j + 1) = cntF (pairB k t (okW h N) m i) i j := by rw [cntF, if_neg (by simp [hp])]; rfl
                    conv => whnf
                    (repeat' (first | (refine And.intro (by (first | omega | assumption | (simp only [nadd_eq]; omega) | (simp [nadd_eq]; omega))) ?_; conv => whnf) | (refine arI64 (by omega) (by omega) ?_; conv => whnf) | (refine arU32 (by omega) (by omega) ?_; conv => whnf) | (refine arU8 (by omega) (by omega) ?_; conv => whnf)))
                    refine ⟨j + 1, by omega, by omega, ?_⟩
                    rw [hcs]
                    (conv => whnf); (refine imp_auto hA ?_; conv => whnf); exact ⟨rfl, rfl, rfl, (by repeat' (first | exact trivial | exact rfl | apply And.intro)), (by repeat' (first | exact trivial | exact rfl | (intro _ _; exact rfl) | (intro _ hj; exact absurd hj (Nat.not_lt_zero _)) | exact Nat.le_refl _ | exact Or.inl (Or.inl (And.intro (fun h => h) rfl)) | exact Or.inl rfl | apply And.intro)), rfl⟩
                · have hp : pairB k t (okW h N) m i j = false := by
                    unfold pairB; rw [show decide (untilF (hitB k t (t j) 4 4) m (j + 1) < m) = false from decide_eq_false (by omega)]; simp
                  have hcs : cntF (pairB k t (okW h N) m i) i (j + 1) = cntF (pairB k t (okW h N) m i) i j := by rw [cntF, if_neg (by simp [hp])]; rfl
                  conv => whnf
                  (repeat' (first | (refine And.intro (by (first | omega | assumption | (simp only [nadd_eq]; omega) | (simp [nadd_eq]; omega))) ?_; conv => whnf) | (refine arI64 (by omega) (by omega) ?_; conv => whnf) | (refine arU32 (by omega) (by omega) ?_; conv => whnf) | (refine arU8 (by omega) (by omega) ?_; conv => whnf)))
                  refine ⟨j + 1, by omega, by omega, ?_⟩
                  rw [hcs]
                  (conv => whnf); (refine imp_auto hA ?_; conv => whnf); exact ⟨rfl, rfl, rfl, (by repeat' (first | exact trivial | exact rfl | apply And.intro)), (by repeat' (first | exact trivial | exact rfl | (intro _ _; exact rfl) | (intro _ hj; exact absurd hj (Nat.not_lt_zero _)) | exact Nat.le_refl _ | exact Or.inl (Or.inl (And.intro (fun h => h) rfl)) | exact Or.inl rfl | apply And.intro)), rfl⟩
          · obtain rfl : j = m := by omega
            conv => whnf
            (repeat' (first | (refine And.intro (by (first | omega | assumption | (simp only [nadd_eq]; omega) | (simp [nadd_eq]; omega))) ?_; conv => whnf) | (refine arI64 (by omega) (by omega) ?_; conv => whnf) | (refine arU32 (by omega) (by omega) ?_; conv => whnf) | (refine arU8 (by omega) (by omega) ?_; conv => whnf)))
            refine ⟨i + 1, by omega, by omega, ?_⟩
            rw [hsi]
            (conv => whnf); (refine imp_auto hA ?_; conv => whnf); exact ⟨rfl, rfl, rfl, (by repeat' (first | exact trivial | exact rfl | apply And.intro)), (by repeat' (first | exact trivial | exact rfl | (intro _ _; exact rfl) | (intro _ hj; exact absurd hj (Nat.not_lt_zero _)) | exact Nat.le_refl _ | exact Or.inl (Or.inl (And.intro (fun h => h) rfl)) | exact Or.inl rfl | apply And.intro)), rfl⟩
    · obtain rfl : i = m := by omega
      conv => whnf
      (refine fin_auto ?_; conv => whnf); exact ⟨rfl, rfl, rfl, rfl, (by repeat' (first | exact trivial | exact rfl | (intro _ _; exact rfl) | (intro _ hj; exact absurd hj (Nat.not_lt_zero _)) | exact Nat.le_refl _ | exact Or.inl (Or.inl (And.intro (fun h => h) rfl)) | exact Or.inl rfl | apply And.intro)), rfl⟩
theorem Overtakes_spec (k t a : Nat → Int) (b : Nat → Bool) (m : Nat) (hm : m ≤ 100) :
    FSpec Try.prog 20 [(0, some (.ro 4 m (entE k t a b)))] 1 [.l (.s 0 4 0 m 0)] fun r h' n => r = sInt .i64 ((sumF k t (fun _ _ => true) m m : Nat) : Int) ∧ n = 1 ∧ h' = [] := by
  have hp := pairsAll_spec k t a b m hm
  refine spec_of_ev Try.func20 ic20_eq (rs := [.t 2]) (by kernel_rfl) (by kernel_rfl) (by kernel_rfl) fun G hP hA => ?_
  unfold evF ic20
  conv => whnf
  (refine call_auto hP (hp) ?_; conv => whnf); (refine ⟨⟨rfl, rfl, rfl, (by repeat' (first | exact trivial | exact rfl | (intro _ _; exact rfl) | (intro _ hj; exact absurd hj (Nat.not_lt_zero _)) | exact Nat.le_refl _ | exact Or.inl (Or.inl (And.intro (fun h => h) rfl)) | exact Or.inl rfl | apply And.intro)), rfl, rfl⟩, ?_⟩; conv => whnf)
  (refine fin_auto ?_; conv => whnf); exact ⟨rfl, rfl, rfl, rfl, (by repeat' (first | exact trivial | exact rfl | (intro _ _; exact rfl) | (intro _ hj; exact absurd hj (Nat.not_lt_zero _)) | exact Nat.le_refl _ | exact Or.inl (Or.inl (And.intro (fun h => h) rfl)) | exact Or.inl rfl | apply And.intro)), rfl⟩
theorem Within_spec (h : Nat → Int) (N : Nat) (hN : N ≤ 1000) (k t a : Nat → Int) (b : Nat → Bool) (m : Nat) (hm : m ≤ 100) :
    FSpec Try.prog 21 [(0, some (.ro 1 N (numE h))), (1, some (.ro 4 m (entE k t a b)))] 2 [.l (.s 0 1 0 N 0), .l (.s 1 4 0 m 0)] fun r h' n => r = sInt .i64 ((sumF k t (okW h N) m m : Nat) : Int) ∧ n = 2 ∧ h' = [] := by
  have hp := pairsW_spec k t a b m hm h N hN
  refine spec_of_ev Try.func21 ic21_eq (rs := [.t 4]) (by kernel_rfl) (by kernel_rfl) (by kernel_rfl) fun G hP hA => ?_
  unfold evF ic21
  conv => whnf
  (refine call_auto hP (hp) ?_; conv => whnf); (refine ⟨⟨rfl, rfl, rfl, (by repeat' (first | exact trivial | exact rfl | (intro _ _; exact rfl) | (intro _ hj; exact absurd hj (Nat.not_lt_zero _)) | exact Nat.le_refl _ | exact Or.inl (Or.inl (And.intro (fun h => h) rfl)) | exact Or.inl rfl | apply And.intro)), rfl, rfl⟩, ?_⟩; conv => whnf)
  (refine fin_auto ?_; conv => whnf); exact ⟨rfl, rfl, rfl, rfl, (by repeat' (first | exact trivial | exact rfl | (intro _ _; exact rfl) | (intro _ hj; exact absurd hj (Nat.not_lt_zero _)) | exact Nat.le_refl _ | exact Or.inl (Or.inl (And.intro (fun h => h) rfl)) | exact Or.inl rfl | apply And.intro)), rfl⟩
def exK : Nat → Int
  | 0 => 1
  | 1 => 2
  | 2 => 1
  | 3 => 2
  | _ => 4
def exT : Nat → Int
  | 0 => 0
  | 1 => 0
  | _ => 1
theorem awake_spec : FSpec Try.prog 17 [] 0 [] fun x h n => x = sBool true ∧ n = 0 ∧ h = [] := by
  have h1 := Overtakes_spec exK exT (fun _ => 0) (fun _ => false) 5 (by omega)
  have h2 := Within_spec (fun i => (i : Int)) 2 (by omega) exK exT (fun _ => 0) (fun _ => false) 5 (by omega)
  have h3 := Depth3_spec (fun _ => 0) 1 0 0 0 0 0 0 (by omega) rfl
  rw [show sumF exK exT (fun _ _ => true) 5 5 = 1 by decide +kernel] at h1
  rw [show sumF exK exT (okW (fun i => (i : Int)) 2) 5 5 = 0 by decide +kernel] at h2
  refine spec_of_ev Try.func17 ic17_eq (rs := [.t 0]) (by kernel_rfl) (by kernel_rfl) (by kernel_rfl) fun G hP hA => ?_
  unfold evF ic17
  conv => whnf
  (refine call_auto hP (h1) ?_; conv => whnf); refine ⟨⟨rfl, rfl, rfl, ?_, rfl, rfl⟩, ?_⟩
  · refine ⟨⟨rfl, Nat.le_refl _, fun i hi => ?_⟩, trivial⟩
    rcases (show i = 0 ∨ i = 1 ∨ i = 2 ∨ i = 3 ∨ i = 4 by omega) with rfl | rfl | rfl | rfl | rfl <;> rfl
  conv => whnf
  (refine call_auto hP (h2) ?_; conv => whnf); refine ⟨⟨rfl, rfl, rfl, ?_, rfl, rfl⟩, ?_⟩
  · refine ⟨⟨rfl, Nat.le_refl _, fun i hi => ?_⟩, ⟨rfl, Nat.le_refl _, fun i hi => ?_⟩, trivial⟩
    · rcases (show i = 0 ∨ i = 1 by omega) with rfl | rfl <;> rfl
    · rcases (show i = 0 ∨ i = 1 ∨ i = 2 ∨ i = 3 ∨ i = 4 by omega) with rfl | rfl | rfl | rfl | rfl <;> rfl
  conv => whnf
  (refine call_auto hP (h3) ?_; conv => whnf); refine ⟨⟨rfl, rfl, rfl, ?_, rfl, rfl⟩, ?_⟩
  · refine ⟨⟨rfl, Nat.le_refl _, fun i hi => ?_⟩, trivial⟩
    obtain rfl : i = 0 := by omega
    rfl
  conv => whnf
  (refine fin_auto ?_; conv => whnf); refine ⟨rfl, rfl, rfl, bool_fin ?_, (by repeat' (first | exact trivial | exact rfl | (intro _ _; exact rfl) | (intro _ hj; exact absurd hj (Nat.not_lt_zero _)) | exact Nat.le_refl _ | exact Or.inl (Or.inl (And.intro (fun h => h) rfl)) | exact Or.inl rfl | apply And.intro)), rfl⟩
  rfl
end Go.Proofs.Ytmccmanekbiadaa
