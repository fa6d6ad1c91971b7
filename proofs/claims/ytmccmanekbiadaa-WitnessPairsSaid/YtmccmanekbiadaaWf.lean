/- WitnessPairs: the document's Ref, between, Overtaken. -/
import Derived.Test.YtmccmanekbiadaaWd
set_option linter.unusedSimpArgs false
set_option linter.unusedVariables false
namespace Go.Proofs.Ytmccmanekbiadaa
open Go Go.Sx

def refE (k t a : Nat → Int) (b : Nat → Bool) : Nat → List Value := fun i => [.int .i64 (k i), .int .i64 (t i), .int .i64 (a i), .int .i64 (if b i then 1 else 0)]
theorem ref_spec (k t : Nat → Int) (a : Nat → Int) (b : Nat → Bool) (m : Nat) (hm : m ≤ 1000) :
    FSpec Try.prog 18 [(0, some (.ro 4 m (entE k t a b)))] 1 [.l (.s 0 4 0 m 0)] fun x h n => x = .o (.l (.s 1 4 0 m 0)) ∧ n = 2 ∧ h = [(1, some (.ar 4 m (refE k t a b)))] := by
  refine spec_of_ev Try.func18 ic18_eq (rs := [.t 2]) (by kernel_rfl) (by kernel_rfl) (by kernel_rfl) fun G hP hA => ?_
  unfold evF ic18
  conv => whnf
  refine loop_auto (α := Nat) (ds := []) (N := 2) (fun i => [(3, .o (.l (.s 1 4 0 i 0))), (9, sInt .i64 (i : Int))]) [] (fun i => [(1, some (.ar 4 i (refE k t a b)))])
    (fun i => i ≤ m) (fun i => m - i) 0 (Nat.zero_le _) ?_ fun i hi => ?_
  · conv => whnf
    refine Imp.trans (imp_nil 3 4 (refE k t a b) rfl) ?_
    (conv => whnf); (refine imp_auto hA ?_; conv => whnf); exact ⟨rfl, rfl, rfl, (by repeat' (first | exact trivial | exact rfl | apply And.intro)), (by repeat' (first | exact trivial | exact rfl | (intro _ _; exact rfl) | (intro _ hj; exact absurd hj (Nat.not_lt_zero _)) | exact Nat.le_refl _ | exact Or.inl (Or.inl (And.intro (fun h => h) rfl)) | exact Or.inl rfl | apply And.intro)), rfl⟩
  · conv => whnf
    refine dsplit (fun h1 => ?_) (fun h1 => ?_)
    · conv => whnf
      (repeat' (first | (refine And.intro (by (first | omega | assumption | (simp only [nadd_eq]; omega) | (simp [nadd_eq]; omega))) ?_; conv => whnf) | (refine arI64 (by omega) (by omega) ?_; conv => whnf) | (refine arU32 (by omega) (by omega) ?_; conv => whnf) | (refine arU8 (by omega) (by omega) ?_; conv => whnf)))
      (refine join_plain ?_; conv => whnf)
      refine bsplit (fun h2 => ?_) (fun h2 => ?_)
      · conv => whnf
        (repeat' (first | (refine And.intro (by (first | omega | assumption | (simp only [nadd_eq]; omega) | (simp [nadd_eq]; omega))) ?_; conv => whnf) | (refine arI64 (by omega) (by omega) ?_; conv => whnf) | (refine arU32 (by omega) (by omega) ?_; conv => whnf) | (refine arU8 (by omega) (by omega) ?_; conv => whnf)))
        refine ⟨i + 1, by omega, by omega, ?_⟩
        (conv => whnf); (refine imp_auto hA ?_; conv => whnf); refine ⟨rfl, rfl, rfl, (by repeat' (first | exact trivial | exact rfl | apply And.intro)), ?_, rfl⟩
        refine And.intro (And.intro rfl (And.intro rfl fun j hj => ?_)) (by repeat' (first | exact trivial | exact rfl | (intro _ _; exact rfl) | (intro _ hj; exact absurd hj (Nat.not_lt_zero _)) | exact Nat.le_refl _ | exact Or.inl (Or.inl (And.intro (fun h => h) rfl)) | exact Or.inl rfl | apply And.intro))
        refine snoc_rows (f := refE k t a b) (i := i) ?_ j hj
        unfold refE
        rw [show b i = true from h2]
        rfl
      · conv => whnf
        (repeat' (first | (refine And.intro (by (first | omega | assumption | (simp only [nadd_eq]; omega) | (simp [nadd_eq]; omega))) ?_; conv => whnf) | (refine arI64 (by omega) (by omega) ?_; conv => whnf) | (refine arU32 (by omega) (by omega) ?_; conv => whnf) | (refine arU8 (by omega) (by omega) ?_; conv => whnf)))
        refine ⟨i + 1, by omega, by omega, ?_⟩
        (conv => whnf); (refine imp_auto hA ?_; conv => whnf); refine ⟨rfl, rfl, rfl, (by repeat' (first | exact trivial | exact rfl | apply And.intro)), ?_, rfl⟩
        refine And.intro (And.intro rfl (And.intro rfl fun j hj => ?_)) (by repeat' (first | exact trivial | exact rfl | (intro _ _; exact rfl) | (intro _ hj; exact absurd hj (Nat.not_lt_zero _)) | exact Nat.le_refl _ | exact Or.inl (Or.inl (And.intro (fun h => h) rfl)) | exact Or.inl rfl | apply And.intro))
        refine snoc_rows (f := refE k t a b) (i := i) ?_ j hj
        unfold refE
        rw [show b i = false from h2]
        rfl
    · obtain rfl : i = m := by omega
      conv => whnf
      (refine fin_auto ?_; conv => whnf); exact ⟨rfl, rfl, rfl, rfl, (by repeat' (first | exact trivial | exact rfl | (intro _ _; exact rfl) | (intro _ hj; exact absurd hj (Nat.not_lt_zero _)) | exact Nat.le_refl _ | exact Or.inl (Or.inl (And.intro (fun h => h) rfl)) | exact Or.inl rfl | apply And.intro)), rfl⟩
/-- Whether v does x behind i and ahead of g. -/
def betB (k t : Nat → Int) (v x : Int) (i g : Nat) : Bool := decide (untilF (hitB k t v x x) g (i + 1) < g)
theorem bet_spec (k t a : Nat → Int) (b : Nat → Bool) (m i g : Nat) (v x : Int) (hm : m ≤ 1000) (hi : i < g) (hg : g ≤ m) :
    FSpec Try.prog 50 [(0, some (.ro 4 m (refE k t a b)))] 1 [.l (.s 0 4 0 m 0), .l (.v (.int .i64 (i : Int))), .l (.v (.int .i64 (g : Int))), .l (.v (.int .i64 v)), .l (.v (.int .i64 x))] fun r h n =>
      r = sBool (betB k t v x i g) ∧ n = 1 ∧ h = [] := by
  refine spec_of_ev Try.func50 ic50_eq (rs := [.t 10]) (by kernel_rfl) (by kernel_rfl) (by kernel_rfl) fun G hP hA => ?_
  unfold evF ic50
  have hB : betB k t v x i g = decide (untilF (hitB k t v x x) g (i + 1) < g) := rfl
  generalize betB k t v x i g = R at hB ⊢
  conv => whnf
  (repeat' (first | (refine And.intro (by (first | omega | assumption | (simp only [nadd_eq]; omega) | (simp [nadd_eq]; omega))) ?_; conv => whnf) | (refine arI64 (by omega) (by omega) ?_; conv => whnf) | (refine arU32 (by omega) (by omega) ?_; conv => whnf) | (refine arU8 (by omega) (by omega) ?_; conv => whnf)))
  refine loop_auto (α := Nat) (ds := []) (N := 1) (fun j => [(11, sInt .i64 (j : Int))]) [] (fun _ => [])
    (fun j => (i + 1 ≤ j ∧ j ≤ g) ∧ untilF (hitB k t v x x) g (i + 1) = untilF (hitB k t v x x) g j) (fun j => g - j) (i + 1) ⟨⟨Nat.le_refl _, hi⟩, rfl⟩ ?_ fun j hj => ?_
  · (conv => whnf); (refine imp_auto hA ?_; conv => whnf); exact ⟨rfl, rfl, rfl, (by repeat' (first | exact trivial | exact rfl | apply And.intro)), (by repeat' (first | exact trivial | exact rfl | (intro _ _; exact rfl) | (intro _ hj; exact absurd hj (Nat.not_lt_zero _)) | exact Nat.le_refl _ | exact Or.inl (Or.inl (And.intro (fun h => h) rfl)) | exact Or.inl rfl | apply And.intro)), rfl⟩
  · obtain ⟨hj, he⟩ := hj
    conv => whnf
    refine dsplit (fun h1 => ?_) (fun h1 => ?_)
    · conv => whnf
      (repeat' (first | (refine And.intro (by (first | omega | assumption | (simp only [nadd_eq]; omega) | (simp [nadd_eq]; omega))) ?_; conv => whnf) | (refine arI64 (by omega) (by omega) ?_; conv => whnf) | (refine arU32 (by omega) (by omega) ?_; conv => whnf) | (refine arU8 (by omega) (by omega) ?_; conv => whnf)))
      refine dsplit (fun h2 => ?_) (fun h2 => ?_)
      · replace h2 : t j = v := h2
        conv => whnf
        (repeat' (first | (refine And.intro (by (first | omega | assumption | (simp only [nadd_eq]; omega) | (simp [nadd_eq]; omega))) ?_; conv => whnf) | (refine arI64 (by omega) (by omega) ?_; conv => whnf) | (refine arU32 (by omega) (by omega) ?_; conv => whnf) | (refine arU8 (by omega) (by omega) ?_; conv => whnf)))
        refine dsplit (fun h3 => ?_) (fun h3 => ?_)
        · replace h3 : k j = x := h3
          have hh : hitB k t v x x j = true := by unfold hitB; rw [decide_eq_true h2, decide_eq_true h3]; rfl
          conv => whnf
          (refine fin_auto ?_; conv => whnf); refine ⟨rfl, rfl, rfl, bool_fin ?_, (by repeat' (first | exact trivial | exact rfl | (intro _ _; exact rfl) | (intro _ hj; exact absurd hj (Nat.not_lt_zero _)) | exact Nat.le_refl _ | exact Or.inl (Or.inl (And.intro (fun h => h) rfl)) | exact Or.inl rfl | apply And.intro)), rfl⟩
          rw [hB, he, until_hit (by omega) hh]
          exact (decide_eq_true (by omega)).symm
        · replace h3 : ¬ k j = x := h3
          have hh : hitB k t v x x j = false := by unfold hitB; rw [decide_eq_false h3, Bool.or_false, Bool.and_false]
          conv => whnf
          (repeat' (first | (refine And.intro (by (first | omega | assumption | (simp only [nadd_eq]; omega) | (simp [nadd_eq]; omega))) ?_; conv => whnf) | (refine arI64 (by omega) (by omega) ?_; conv => whnf) | (refine arU32 (by omega) (by omega) ?_; conv => whnf) | (refine arU8 (by omega) (by omega) ?_; conv => whnf)))
          refine ⟨j + 1, ⟨by omega, he.trans (until_miss (by omega) hh)⟩, by omega, ?_⟩
          (conv => whnf); (refine imp_auto hA ?_; conv => whnf); exact ⟨rfl, rfl, rfl, (by repeat' (first | exact trivial | exact rfl | apply And.intro)), (by repeat' (first | exact trivial | exact rfl | (intro _ _; exact rfl) | (intro _ hj; exact absurd hj (Nat.not_lt_zero _)) | exact Nat.le_refl _ | exact Or.inl (Or.inl (And.intro (fun h => h) rfl)) | exact Or.inl rfl | apply And.intro)), rfl⟩
      · replace h2 : ¬ t j = v := h2
        have hh : hitB k t v x x j = false := by unfold hitB; rw [decide_eq_false h2]; rfl
        conv => whnf
        (repeat' (first | (refine And.intro (by (first | omega | assumption | (simp only [nadd_eq]; omega) | (simp [nadd_eq]; omega))) ?_; conv => whnf) | (refine arI64 (by omega) (by omega) ?_; conv => whnf) | (refine arU32 (by omega) (by omega) ?_; conv => whnf) | (refine arU8 (by omega) (by omega) ?_; conv => whnf)))
        refine ⟨j + 1, ⟨by omega, he.trans (until_miss (by omega) hh)⟩, by omega, ?_⟩
        (conv => whnf); (refine imp_auto hA ?_; conv => whnf); exact ⟨rfl, rfl, rfl, (by repeat' (first | exact trivial | exact rfl | apply And.intro)), (by repeat' (first | exact trivial | exact rfl | (intro _ _; exact rfl) | (intro _ hj; exact absurd hj (Nat.not_lt_zero _)) | exact Nat.le_refl _ | exact Or.inl (Or.inl (And.intro (fun h => h) rfl)) | exact Or.inl rfl | apply And.intro)), rfl⟩
    · obtain rfl : j = g := by omega
      conv => whnf
      (refine fin_auto ?_; conv => whnf); refine ⟨rfl, rfl, rfl, bool_fin ?_, (by repeat' (first | exact trivial | exact rfl | (intro _ _; exact rfl) | (intro _ hj; exact absurd hj (Nat.not_lt_zero _)) | exact Nat.le_refl _ | exact Or.inl (Or.inl (And.intro (fun h => h) rfl)) | exact Or.inl rfl | apply And.intro)), rfl⟩
      rw [hB, he, until_end]
      exact (decide_eq_false (by omega)).symm
/-- Whether i's lock is overtaken by j's, as the document says it. -/
def ovB (k t : Nat → Int) (m i j : Nat) : Bool := decide (k i = 2) && (decide (k j = 1) && (decide (i ≤ j) && (!decide (t i = t j) && (decide (untilF (hitB k t (t j) 4 4) m (j + 1) < m) && (!betB k t (t i) 4 i (untilF (hitB k t (t j) 4 4) m (j + 1)) && !betB k t (t i) 5 i (untilF (hitB k t (t j) 4 4) m (j + 1)))))))
set_option maxHeartbeats 2000000 in
theorem ov_spec (k t a : Nat → Int) (b : Nat → Bool) (m i j : Nat) (hm : m ≤ 1000) (hi : i < m) (hj : j < m) :
    FSpec Try.prog 19 [(0, some (.ro 4 m (refE k t a b)))] 1 [.l (.s 0 4 0 m 0), .l (.v (.int .i64 (i : Int))), .l (.v (.int .i64 (j : Int)))] fun r h n =>
      r = sBool (ovB k t m i j) ∧ n = 1 ∧ h = [] := by
  have hO : ovB k t m i j = (decide (k i = 2) && (decide (k j = 1) && (decide (i ≤ j) && (!decide (t i = t j) && (decide (untilF (hitB k t (t j) 4 4) m (j + 1) < m) && (!betB k t (t i) 4 i (untilF (hitB k t (t j) 4 4) m (j + 1)) && !betB k t (t i) 5 i (untilF (hitB k t (t j) 4 4) m (j + 1)))))))) := rfl
  generalize ovB k t m i j = R at hO ⊢
  refine spec_of_ev Try.func19 ic19_eq (rs := [.t 6]) (by kernel_rfl) (by kernel_rfl) (by kernel_rfl) fun G hP hA => ?_
  unfold evF ic19
  conv => whnf
  (refine drawP_intro (by rw [hP]; exact follows) (by kernel_rfl) ?_; conv => whnf)
  (repeat' (first | (refine And.intro (by (first | omega | assumption | (simp only [nadd_eq]; omega) | (simp [nadd_eq]; omega))) ?_; conv => whnf) | (refine arI64 (by omega) (by omega) ?_; conv => whnf) | (refine arU32 (by omega) (by omega) ?_; conv => whnf) | (refine arU8 (by omega) (by omega) ?_; conv => whnf)))
  (repeat (refine And.intro (by (conv => whnf); first | exact ⟨rfl, rfl, rfl⟩ | (refine And.intro (by (first | omega | assumption | (simp only [nadd_eq]; omega) | (simp [nadd_eq]; omega))) ?_; (conv => whnf); exact ⟨rfl, rfl, rfl⟩)) ?_; conv => whnf))
  conv => whnf
  refine dsplit (fun h1 => ?_) (fun h1 => ?_)
  · replace h1 : ¬ k i = 2 := h1
    rw [decide_eq_false h1, Bool.false_and] at hO
    subst hO
    conv => whnf
    (refine fin_auto ?_; conv => whnf); exact ⟨rfl, rfl, rfl, rfl, (by repeat' (first | exact trivial | exact rfl | (intro _ _; exact rfl) | (intro _ hj; exact absurd hj (Nat.not_lt_zero _)) | exact Nat.le_refl _ | exact Or.inl (Or.inl (And.intro (fun h => h) rfl)) | exact Or.inl rfl | apply And.intro)), rfl⟩
  replace h1 : ¬ ¬ k i = 2 := h1
  have e1 : k i = 2 := Decidable.not_not.1 h1
  rw [decide_eq_true e1, Bool.true_and] at hO
  conv => whnf
  refine dsplit (fun h2 => ?_) (fun h2 => ?_)
  · replace h2 : ¬ k j = 1 := h2
    rw [decide_eq_false h2, Bool.false_and] at hO
    subst hO
    conv => whnf
    (refine fin_auto ?_; conv => whnf); exact ⟨rfl, rfl, rfl, rfl, (by repeat' (first | exact trivial | exact rfl | (intro _ _; exact rfl) | (intro _ hj; exact absurd hj (Nat.not_lt_zero _)) | exact Nat.le_refl _ | exact Or.inl (Or.inl (And.intro (fun h => h) rfl)) | exact Or.inl rfl | apply And.intro)), rfl⟩
  replace h2 : ¬ ¬ k j = 1 := h2
  have e2 : k j = 1 := Decidable.not_not.1 h2
  rw [decide_eq_true e2, Bool.true_and] at hO
  conv => whnf
  refine dsplit (fun h3 => ?_) (fun h3 => ?_)
  · rw [decide_eq_false (show ¬ i ≤ j by omega), Bool.false_and] at hO
    subst hO
    conv => whnf
    (refine fin_auto ?_; conv => whnf); exact ⟨rfl, rfl, rfl, rfl, (by repeat' (first | exact trivial | exact rfl | (intro _ _; exact rfl) | (intro _ hj; exact absurd hj (Nat.not_lt_zero _)) | exact Nat.le_refl _ | exact Or.inl (Or.inl (And.intro (fun h => h) rfl)) | exact Or.inl rfl | apply And.intro)), rfl⟩
  rw [decide_eq_true (show i ≤ j by omega), Bool.true_and] at hO
  conv => whnf
  refine dsplit (fun h4 => ?_) (fun h4 => ?_)
  · replace h4 : t i = t j := h4
    rw [decide_eq_true h4, Bool.not_true, Bool.false_and] at hO
    subst hO
    conv => whnf
    (refine fin_auto ?_; conv => whnf); exact ⟨rfl, rfl, rfl, rfl, (by repeat' (first | exact trivial | exact rfl | (intro _ _; exact rfl) | (intro _ hj; exact absurd hj (Nat.not_lt_zero _)) | exact Nat.le_refl _ | exact Or.inl (Or.inl (And.intro (fun h => h) rfl)) | exact Or.inl rfl | apply And.intro)), rfl⟩
  replace h4 : ¬ t i = t j := h4
  rw [decide_eq_false h4, Bool.not_false, Bool.true_and] at hO
  conv => whnf
  (repeat' (first | (refine And.intro (by (first | omega | assumption | (simp only [nadd_eq]; omega) | (simp [nadd_eq]; omega))) ?_; conv => whnf) | (refine arI64 (by omega) (by omega) ?_; conv => whnf) | (refine arU32 (by omega) (by omega) ?_; conv => whnf) | (refine arU8 (by omega) (by omega) ?_; conv => whnf)))
  refine loop_auto (α := Nat) (ds := []) (N := 3) (fun l => [(9, sInt .i64 (l : Int))]) [] (fun _ => [])
    (fun l => (j + 1 ≤ l ∧ l ≤ m) ∧ untilF (hitB k t (t j) 4 4) m (j + 1) = untilF (hitB k t (t j) 4 4) m l) (fun l => m - l) (j + 1) ⟨⟨Nat.le_refl _, hj⟩, rfl⟩ ?_ fun l hl => ?_
  · (conv => whnf); (refine imp_auto hA ?_; conv => whnf); exact ⟨rfl, rfl, rfl, (by repeat' (first | exact trivial | exact rfl | apply And.intro)), (by repeat' (first | exact trivial | exact rfl | (intro _ _; exact rfl) | (intro _ hj; exact absurd hj (Nat.not_lt_zero _)) | exact Nat.le_refl _ | exact Or.inl (Or.inl (And.intro (fun h => h) rfl)) | exact Or.inl rfl | apply And.intro)), rfl⟩
  · obtain ⟨hl, he⟩ := hl
    conv => whnf
    refine dsplit (fun h5 => ?_) (fun h5 => ?_)
    · conv => whnf
      (refine drawP_intro (by rw [hP]; exact follows) (by kernel_rfl) ?_; conv => whnf)
      (repeat' (first | (refine And.intro (by (first | omega | assumption | (simp only [nadd_eq]; omega) | (simp [nadd_eq]; omega))) ?_; conv => whnf) | (refine arI64 (by omega) (by omega) ?_; conv => whnf) | (refine arU32 (by omega) (by omega) ?_; conv => whnf) | (refine arU8 (by omega) (by omega) ?_; conv => whnf)))
      refine dsplit (fun h6 => ?_) (fun h6 => ?_)
      · replace h6 : k l = 4 := h6
        conv => whnf
        (repeat' (first | (refine And.intro (by (first | omega | assumption | (simp only [nadd_eq]; omega) | (simp [nadd_eq]; omega))) ?_; conv => whnf) | (refine arI64 (by omega) (by omega) ?_; conv => whnf) | (refine arU32 (by omega) (by omega) ?_; conv => whnf) | (refine arU8 (by omega) (by omega) ?_; conv => whnf)))
        refine dsplit (fun h7 => ?_) (fun h7 => ?_)
        · replace h7 : t l = t j := h7
          have hh : hitB k t (t j) 4 4 l = true := by unfold hitB; rw [decide_eq_true h6, decide_eq_true h7]; rfl
          rw [he, until_hit (by omega) hh, decide_eq_true (show l < m by omega), Bool.true_and] at hO
          have b4 := bet_spec k t a b m i l (t i) 4 hm (by omega) (by omega)
          have b5 := bet_spec k t a b m i l (t i) 5 hm (by omega) (by omega)
          cases hb4 : betB k t (t i) 4 i l
          · rw [hb4] at b4 hO
            rw [Bool.not_false, Bool.true_and] at hO
            conv => whnf
            (repeat (refine And.intro (by (conv => whnf); first | exact ⟨rfl, rfl, rfl⟩ | (refine And.intro (by (first | omega | assumption | (simp only [nadd_eq]; omega) | (simp [nadd_eq]; omega))) ?_; (conv => whnf); exact ⟨rfl, rfl, rfl⟩)) ?_; conv => whnf))
            conv => whnf
            (refine call_auto hP (b4) ?_; conv => whnf); (refine ⟨⟨rfl, rfl, rfl, (by repeat' (first | exact trivial | exact rfl | (intro _ _; exact rfl) | (intro _ hj; exact absurd hj (Nat.not_lt_zero _)) | exact Nat.le_refl _ | exact Or.inl (Or.inl (And.intro (fun h => h) rfl)) | exact Or.inl rfl | apply And.intro)), rfl, rfl⟩, ?_⟩; conv => whnf)
            (refine call_auto hP (b5) ?_; conv => whnf); (refine ⟨⟨rfl, rfl, rfl, (by repeat' (first | exact trivial | exact rfl | (intro _ _; exact rfl) | (intro _ hj; exact absurd hj (Nat.not_lt_zero _)) | exact Nat.le_refl _ | exact Or.inl (Or.inl (And.intro (fun h => h) rfl)) | exact Or.inl rfl | apply And.intro)), rfl, rfl⟩, ?_⟩; conv => whnf)
            (refine fin_auto ?_; conv => whnf); refine ⟨rfl, rfl, rfl, bool_fin ?_, (by repeat' (first | exact trivial | exact rfl | (intro _ _; exact rfl) | (intro _ hj; exact absurd hj (Nat.not_lt_zero _)) | exact Nat.le_refl _ | exact Or.inl (Or.inl (And.intro (fun h => h) rfl)) | exact Or.inl rfl | apply And.intro)), rfl⟩
            exact hO.symm
          · rw [hb4] at b4 hO
            rw [Bool.not_true, Bool.false_and] at hO
            conv => whnf
            (repeat (refine And.intro (by (conv => whnf); first | exact ⟨rfl, rfl, rfl⟩ | (refine And.intro (by (first | omega | assumption | (simp only [nadd_eq]; omega) | (simp [nadd_eq]; omega))) ?_; (conv => whnf); exact ⟨rfl, rfl, rfl⟩)) ?_; conv => whnf))
            conv => whnf
            (refine call_auto hP (b4) ?_; conv => whnf); (refine ⟨⟨rfl, rfl, rfl, (by repeat' (first | exact trivial | exact rfl | (intro _ _; exact rfl) | (intro _ hj; exact absurd hj (Nat.not_lt_zero _)) | exact Nat.le_refl _ | exact Or.inl (Or.inl (And.intro (fun h => h) rfl)) | exact Or.inl rfl | apply And.intro)), rfl, rfl⟩, ?_⟩; conv => whnf)
            (refine fin_auto ?_; conv => whnf); refine ⟨rfl, rfl, rfl, bool_fin ?_, (by repeat' (first | exact trivial | exact rfl | (intro _ _; exact rfl) | (intro _ hj; exact absurd hj (Nat.not_lt_zero _)) | exact Nat.le_refl _ | exact Or.inl (Or.inl (And.intro (fun h => h) rfl)) | exact Or.inl rfl | apply And.intro)), rfl⟩
            exact hO.symm
        · replace h7 : ¬ t l = t j := h7
          have hh : hitB k t (t j) 4 4 l = false := by unfold hitB; rw [decide_eq_false h7]; rfl
          conv => whnf
          (repeat (refine And.intro (by (conv => whnf); first | exact ⟨rfl, rfl, rfl⟩ | (refine And.intro (by (first | omega | assumption | (simp only [nadd_eq]; omega) | (simp [nadd_eq]; omega))) ?_; (conv => whnf); exact ⟨rfl, rfl, rfl⟩)) ?_; conv => whnf))
          conv => whnf
          (repeat' (first | (refine And.intro (by (first | omega | assumption | (simp only [nadd_eq]; omega) | (simp [nadd_eq]; omega))) ?_; conv => whnf) | (refine arI64 (by omega) (by omega) ?_; conv => whnf) | (refine arU32 (by omega) (by omega) ?_; conv => whnf) | (refine arU8 (by omega) (by omega) ?_; conv => whnf)))
          refine ⟨l + 1, ⟨by omega, he.trans (until_miss (by omega) hh)⟩, by omega, ?_⟩
          (conv => whnf); (refine imp_auto hA ?_; conv => whnf); exact ⟨rfl, rfl, rfl, (by repeat' (first | exact trivial | exact rfl | apply And.intro)), (by repeat' (first | exact trivial | exact rfl | (intro _ _; exact rfl) | (intro _ hj; exact absurd hj (Nat.not_lt_zero _)) | exact Nat.le_refl _ | exact Or.inl (Or.inl (And.intro (fun h => h) rfl)) | exact Or.inl rfl | apply And.intro)), rfl⟩
      · replace h6 : ¬ k l = 4 := h6
        have hh : hitB k t (t j) 4 4 l = false := by unfold hitB; rw [decide_eq_false h6, Bool.or_false, Bool.and_false]
        conv => whnf
        (repeat (refine And.intro (by (conv => whnf); first | exact ⟨rfl, rfl, rfl⟩ | (refine And.intro (by (first | omega | assumption | (simp only [nadd_eq]; omega) | (simp [nadd_eq]; omega))) ?_; (conv => whnf); exact ⟨rfl, rfl, rfl⟩)) ?_; conv => whnf))
        conv => whnf
        (repeat' (first | (refine And.intro (by (first | omega | assumption | (simp only [nadd_eq]; omega) | (simp [nadd_eq]; omega))) ?_; conv => whnf) | (refine arI64 (by omega) (by omega) ?_; conv => whnf) | (refine arU32 (by omega) (by omega) ?_; conv => whnf) | (refine arU8 (by omega) (by omega) ?_; conv => whnf)))
        refine ⟨l + 1, ⟨by omega, he.trans (until_miss (by omega) hh)⟩, by omega, ?_⟩
        (conv => whnf); (refine imp_auto hA ?_; conv => whnf); exact ⟨rfl, rfl, rfl, (by repeat' (first | exact trivial | exact rfl | apply And.intro)), (by repeat' (first | exact trivial | exact rfl | (intro _ _; exact rfl) | (intro _ hj; exact absurd hj (Nat.not_lt_zero _)) | exact Nat.le_refl _ | exact Or.inl (Or.inl (And.intro (fun h => h) rfl)) | exact Or.inl rfl | apply And.intro)), rfl⟩
    · obtain rfl : l = m := by omega
      rw [he, until_end, decide_eq_false (Nat.lt_irrefl _), Bool.false_and] at hO
      subst hO
      conv => whnf
      (refine fin_auto ?_; conv => whnf); exact ⟨rfl, rfl, rfl, rfl, (by repeat' (first | exact trivial | exact rfl | (intro _ _; exact rfl) | (intro _ hj; exact absurd hj (Nat.not_lt_zero _)) | exact Nat.le_refl _ | exact Or.inl (Or.inl (And.intro (fun h => h) rfl)) | exact Or.inl rfl | apply And.intro)), rfl⟩
end Go.Proofs.Ytmccmanekbiadaa
