/- BuildNames: the words of the kinds. -/
import Derived.Test.YtmccmanekbiadaaDoorNa
import Derived.Test.YtmccmanekbiadaaDoorSxPS
set_option linter.unusedSimpArgs false
set_option linter.unusedVariables false
namespace Go.Proofs.YtmccmanekbiadaaDoor
open Go Go.Sx

def wordS : Nat → ByteArray
  | 1 => ⟨#[116, 105, 99, 107, 101, 116]⟩
  | 2 => ⟨#[115, 108, 111, 116, 115]⟩
  | 3 => ⟨#[99, 108, 104]⟩
  | 4 => ⟨#[109, 99, 115]⟩
  | 5 => ⟨#[97, 98, 111, 114, 116]⟩
  | 6 => ⟨#[104, 105, 101, 114]⟩
  | 7 => ⟨#[99, 111, 104, 111, 114, 116]⟩
  | _ => ⟨#[]⟩
theorem names_spec : FSpec Tryd.prog 5 [] 0 [] fun x h n => x = .o (.a [.v (.string (wordS 0)), .v (.string (wordS 1)), .v (.string (wordS 2)), .v (.string (wordS 3)), .v (.string (wordS 4)), .v (.string (wordS 5)), .v (.string (wordS 6)), .v (.string (wordS 7))]) ∧ n = 0 ∧ h = [] := by
  refine spec_of_ev Tryd.func5 ic5_eq (rs := [.ca 0 8]) (by kernel_rfl) (by kernel_rfl) (by kernel_rfl) fun G hP hA => ?_
  unfold evF ic5
  conv => whnf
  (refine fin_auto ?_; conv => whnf); exact ⟨rfl, rfl, rfl, rfl, (by repeat' (first | exact trivial | exact rfl | (intro _ _; exact rfl) | (intro _ hj; exact absurd hj (Nat.not_lt_zero _)) | exact Nat.le_refl _ | exact Or.inl (Or.inl (And.intro (fun h => h) rfl)) | exact Or.inl rfl | apply And.intro)), rfl⟩
theorem name_in (k : Nat) (hk : 1 ≤ k ∧ k ≤ 7) : FSpec Tryd.prog 6 [] 0 [.l (.v (.int .i64 k))] fun x h n => x = .o (.l (.v (.string (wordS k)))) ∧ n = 0 ∧ h = [] := by
  refine spec_of_ev Tryd.func6 ic6_eq (rs := [.t 2]) (by kernel_rfl) (by kernel_rfl) (by kernel_rfl) fun G hP hA => ?_
  unfold evF ic6
  rcases (show k = 1 ∨ k = 2 ∨ k = 3 ∨ k = 4 ∨ k = 5 ∨ k = 6 ∨ k = 7 by omega) with rfl | rfl | rfl | rfl | rfl | rfl | rfl
  all_goals
    conv => whnf
    (repeat' (first | (refine And.intro (by (first | omega | assumption | (simp only [nadd_eq]; omega) | (simp [nadd_eq]; omega))) ?_; conv => whnf) | (refine arI64 (by omega) (by omega) ?_; conv => whnf) | (refine arU32 (by omega) (by omega) ?_; conv => whnf) | (refine arU8 (by omega) (by omega) ?_; conv => whnf)))
    (refine fin_auto ?_; conv => whnf); exact ⟨rfl, rfl, rfl, rfl, (by repeat' (first | exact trivial | exact rfl | (intro _ _; exact rfl) | (intro _ hj; exact absurd hj (Nat.not_lt_zero _)) | exact Nat.le_refl _ | exact Or.inl (Or.inl (And.intro (fun h => h) rfl)) | exact Or.inl rfl | apply And.intro)), rfl⟩
theorem name_out (k : Int) (hk : k < 1 ∨ 7 < k) : FSpec Tryd.prog 6 [] 0 [.l (.v (.int .i64 k))] fun x h n => x = .o (.l (.v (.string (wordS 0)))) ∧ n = 0 ∧ h = [] := by
  refine spec_of_ev Tryd.func6 ic6_eq (rs := [.t 2]) (by kernel_rfl) (by kernel_rfl) (by kernel_rfl) fun G hP hA => ?_
  unfold evF ic6
  conv => whnf
  (repeat' (first | (refine join_plain ?_; conv => whnf) | (refine dsplit (fun _ => ?_) (fun _ => ?_) <;> conv => whnf)))
  all_goals first | (exfalso; omega) | skip
  all_goals (refine fin_auto ?_; conv => whnf); exact ⟨rfl, rfl, rfl, rfl, (by repeat' (first | exact trivial | exact rfl | (intro _ _; exact rfl) | (intro _ hj; exact absurd hj (Nat.not_lt_zero _)) | exact Nat.le_refl _ | exact Or.inl (Or.inl (And.intro (fun h => h) rfl)) | exact Or.inl rfl | apply And.intro)), rfl⟩
theorem fifo_spec (k : Int) : FSpec Tryd.prog 7 [] 0 [.l (.v (.int .i64 k))] fun x h n => x = sBool (decide (1 ≤ k) && decide (k ≤ 5)) ∧ n = 0 ∧ h = [] := by
  refine spec_of_ev Tryd.func7 ic7_eq (rs := [.t 2]) (by kernel_rfl) (by kernel_rfl) (by kernel_rfl) fun G hP hA => ?_
  unfold evF ic7
  conv => whnf
  (repeat' (first | (refine join_plain ?_; conv => whnf) | (refine dsplit (fun _ => ?_) (fun _ => ?_) <;> conv => whnf)))
  all_goals ((refine fin_auto ?_; conv => whnf); refine ⟨rfl, rfl, rfl, bool_fin ?_, (by repeat' (first | exact trivial | exact rfl | (intro _ _; exact rfl) | (intro _ hj; exact absurd hj (Nat.not_lt_zero _)) | exact Nat.le_refl _ | exact Or.inl (Or.inl (And.intro (fun h => h) rfl)) | exact Or.inl rfl | apply And.intro)), rfl⟩; rw [Bool.eq_iff_iff]; simp; omega)
theorem timed_spec (k : Int) : FSpec Tryd.prog 8 [] 0 [.l (.v (.int .i64 k))] fun x h n => x = sBool (decide (k = 5)) ∧ n = 0 ∧ h = [] := by
  refine spec_of_ev Tryd.func8 ic8_eq (rs := [.t 2]) (by kernel_rfl) (by kernel_rfl) (by kernel_rfl) fun G hP hA => ?_
  unfold evF ic8
  conv => whnf
  (refine fin_auto ?_; conv => whnf); exact ⟨rfl, rfl, rfl, rfl, (by repeat' (first | exact trivial | exact rfl | (intro _ _; exact rfl) | (intro _ hj; exact absurd hj (Nat.not_lt_zero _)) | exact Nat.le_refl _ | exact Or.inl (Or.inl (And.intro (fun h => h) rfl)) | exact Or.inl rfl | apply And.intro)), rfl⟩
def eqS (s : ByteArray) (k : Nat) : Bool := s.toList == (wordS k).toList
def kindZ (s : ByteArray) : Int := if eqS s 1 then 1 else if eqS s 2 then 2 else if eqS s 3 then 3 else if eqS s 4 then 4 else if eqS s 5 then 5 else if eqS s 6 then 6 else if eqS s 7 then 7 else 0
theorem kindZ_at {s : ByteArray} {i : Nat} (h1 : 1 ≤ i ∧ i ≤ 7) (h : ∀ j, 1 ≤ j → j < i → eqS s j = false) (hi : eqS s i = true) : kindZ s = i := by
  rcases (show i = 1 ∨ i = 2 ∨ i = 3 ∨ i = 4 ∨ i = 5 ∨ i = 6 ∨ i = 7 by omega) with rfl | rfl | rfl | rfl | rfl | rfl | rfl
  · simp [kindZ, hi]
  · simp [kindZ, hi, h 1 (by omega) (by omega)]
  · simp [kindZ, hi, h 1 (by omega) (by omega), h 2 (by omega) (by omega)]
  · simp [kindZ, hi, h 1 (by omega) (by omega), h 2 (by omega) (by omega), h 3 (by omega) (by omega)]
  · simp [kindZ, hi, h 1 (by omega) (by omega), h 2 (by omega) (by omega), h 3 (by omega) (by omega), h 4 (by omega) (by omega)]
  · simp [kindZ, hi, h 1 (by omega) (by omega), h 2 (by omega) (by omega), h 3 (by omega) (by omega), h 4 (by omega) (by omega), h 5 (by omega) (by omega)]
  · simp [kindZ, hi, h 1 (by omega) (by omega), h 2 (by omega) (by omega), h 3 (by omega) (by omega), h 4 (by omega) (by omega), h 5 (by omega) (by omega), h 6 (by omega) (by omega)]
theorem kindZ_none {s : ByteArray} (h : ∀ j, 1 ≤ j → j < 8 → eqS s j = false) : kindZ s = 0 := by
  simp [kindZ, h 1 (by omega) (by omega), h 2 (by omega) (by omega), h 3 (by omega) (by omega), h 4 (by omega) (by omega), h 5 (by omega) (by omega), h 6 (by omega) (by omega), h 7 (by omega) (by omega)]
theorem kindZ_range (s : ByteArray) : 0 ≤ kindZ s ∧ kindZ s ≤ 7 := by
  unfold kindZ
  repeat' split
  all_goals omega
theorem indexS_spec (b : Nat) (s : ByteArray) (hb : b = 0) : FSpec Tryd.prog 14 [] 0 [.l (.v (.slice (some ⟨b, 0, none⟩) 7 7)), .l (.v (.string s))] fun x h n => x = sInt .i64 (kindZ s - 1) ∧ n = 0 ∧ h = [] := by
  subst hb
  refine spec_of_ev Tryd.func14 ic14_eq (rs := [.t 4]) (by kernel_rfl) (by kernel_rfl) (by kernel_rfl) fun G hP hA => ?_
  unfold evF ic14
  conv => whnf
  refine loop_auto (α := Nat) (ds := []) (N := 0) (fun i => [(8, sInt .i64 (i : Int))]) [] (fun _ => [])
    (fun i => i ≤ 7 ∧ ∀ j, 1 ≤ j → j < i + 1 → eqS s j = false) (fun i => 7 - i) 0 ⟨Nat.zero_le _, fun j h1 h2 => by omega⟩ ?_ fun i hi => ?_
  · (conv => whnf); (refine imp_auto hA ?_; conv => whnf); exact ⟨rfl, rfl, rfl, (by repeat' (first | exact trivial | exact rfl | apply And.intro)), (by repeat' (first | exact trivial | exact rfl | (intro _ _; exact rfl) | (intro _ hj; exact absurd hj (Nat.not_lt_zero _)) | exact Nat.le_refl _ | exact Or.inl (Or.inl (And.intro (fun h => h) rfl)) | exact Or.inl rfl | apply And.intro)), rfl⟩
  · obtain ⟨hi, hn⟩ := hi
    have next : ∀ {i : Nat}, (∀ j, 1 ≤ j → j < i + 1 → eqS s j = false) → eqS s (i + 1) = false → ∀ j, 1 ≤ j → j < i + 1 + 1 → eqS s j = false := fun {i} hn h j h1 h2 => by
      rcases Nat.lt_succ_iff_lt_or_eq.1 h2 with h3 | rfl
      · exact hn j h1 h3
      · exact h
    rcases (show i = 0 ∨ i = 1 ∨ i = 2 ∨ i = 3 ∨ i = 4 ∨ i = 5 ∨ i = 6 ∨ i = 7 by omega) with rfl | rfl | rfl | rfl | rfl | rfl | rfl | rfl
    · conv => whnf
      (repeat' (first | (refine And.intro (by (first | omega | assumption | (simp only [nadd_eq]; omega) | (simp [nadd_eq]; omega))) ?_; conv => whnf) | (refine arI64 (by omega) (by omega) ?_; conv => whnf) | (refine arU32 (by omega) (by omega) ?_; conv => whnf) | (refine arU8 (by omega) (by omega) ?_; conv => whnf)))
      refine bsplit (fun h1 => ?_) (fun h1 => ?_)
      · replace h1 : eqS s 1 = true := h1
        conv => whnf
        (refine fin_auto ?_; conv => whnf); refine ⟨rfl, rfl, rfl, int_fin ?_, (by repeat' (first | exact trivial | exact rfl | (intro _ _; exact rfl) | (intro _ hj; exact absurd hj (Nat.not_lt_zero _)) | exact Nat.le_refl _ | exact Or.inl (Or.inl (And.intro (fun h => h) rfl)) | exact Or.inl rfl | apply And.intro)), rfl⟩
        rw [kindZ_at (i := 1) (by omega) hn h1]; rfl
      · replace h1 : eqS s 1 = false := h1
        conv => whnf
        (repeat' (first | (refine And.intro (by (first | omega | assumption | (simp only [nadd_eq]; omega) | (simp [nadd_eq]; omega))) ?_; conv => whnf) | (refine arI64 (by omega) (by omega) ?_; conv => whnf) | (refine arU32 (by omega) (by omega) ?_; conv => whnf) | (refine arU8 (by omega) (by omega) ?_; conv => whnf)))
        refine ⟨1, ⟨by omega, next hn h1⟩, by omega, ?_⟩
        (conv => whnf); (refine imp_auto hA ?_; conv => whnf); exact ⟨rfl, rfl, rfl, (by repeat' (first | exact trivial | exact rfl | apply And.intro)), (by repeat' (first | exact trivial | exact rfl | (intro _ _; exact rfl) | (intro _ hj; exact absurd hj (Nat.not_lt_zero _)) | exact Nat.le_refl _ | exact Or.inl (Or.inl (And.intro (fun h => h) rfl)) | exact Or.inl rfl | apply And.intro)), rfl⟩
    · conv => whnf
      (repeat' (first | (refine And.intro (by (first | omega | assumption | (simp only [nadd_eq]; omega) | (simp [nadd_eq]; omega))) ?_; conv => whnf) | (refine arI64 (by omega) (by omega) ?_; conv => whnf) | (refine arU32 (by omega) (by omega) ?_; conv => whnf) | (refine arU8 (by omega) (by omega) ?_; conv => whnf)))
      refine bsplit (fun h1 => ?_) (fun h1 => ?_)
      · replace h1 : eqS s 2 = true := h1
        conv => whnf
        (refine fin_auto ?_; conv => whnf); refine ⟨rfl, rfl, rfl, int_fin ?_, (by repeat' (first | exact trivial | exact rfl | (intro _ _; exact rfl) | (intro _ hj; exact absurd hj (Nat.not_lt_zero _)) | exact Nat.le_refl _ | exact Or.inl (Or.inl (And.intro (fun h => h) rfl)) | exact Or.inl rfl | apply And.intro)), rfl⟩
        rw [kindZ_at (i := 2) (by omega) hn h1]; rfl
      · replace h1 : eqS s 2 = false := h1
        conv => whnf
        (repeat' (first | (refine And.intro (by (first | omega | assumption | (simp only [nadd_eq]; omega) | (simp [nadd_eq]; omega))) ?_; conv => whnf) | (refine arI64 (by omega) (by omega) ?_; conv => whnf) | (refine arU32 (by omega) (by omega) ?_; conv => whnf) | (refine arU8 (by omega) (by omega) ?_; conv => whnf)))
        refine ⟨2, ⟨by omega, next hn h1⟩, by omega, ?_⟩
        (conv => whnf); (refine imp_auto hA ?_; conv => whnf); exact ⟨rfl, rfl, rfl, (by repeat' (first | exact trivial | exact rfl | apply And.intro)), (by repeat' (first | exact trivial | exact rfl | (intro _ _; exact rfl) | (intro _ hj; exact absurd hj (Nat.not_lt_zero _)) | exact Nat.le_refl _ | exact Or.inl (Or.inl (And.intro (fun h => h) rfl)) | exact Or.inl rfl | apply And.intro)), rfl⟩
    · conv => whnf
      (repeat' (first | (refine And.intro (by (first | omega | assumption | (simp only [nadd_eq]; omega) | (simp [nadd_eq]; omega))) ?_; conv => whnf) | (refine arI64 (by omega) (by omega) ?_; conv => whnf) | (refine arU32 (by omega) (by omega) ?_; conv => whnf) | (refine arU8 (by omega) (by omega) ?_; conv => whnf)))
      refine bsplit (fun h1 => ?_) (fun h1 => ?_)
      · replace h1 : eqS s 3 = true := h1
        conv => whnf
        (refine fin_auto ?_; conv => whnf); refine ⟨rfl, rfl, rfl, int_fin ?_, (by repeat' (first | exact trivial | exact rfl | (intro _ _; exact rfl) | (intro _ hj; exact absurd hj (Nat.not_lt_zero _)) | exact Nat.le_refl _ | exact Or.inl (Or.inl (And.intro (fun h => h) rfl)) | exact Or.inl rfl | apply And.intro)), rfl⟩
        rw [kindZ_at (i := 3) (by omega) hn h1]; rfl
      · replace h1 : eqS s 3 = false := h1
        conv => whnf
        (repeat' (first | (refine And.intro (by (first | omega | assumption | (simp only [nadd_eq]; omega) | (simp [nadd_eq]; omega))) ?_; conv => whnf) | (refine arI64 (by omega) (by omega) ?_; conv => whnf) | (refine arU32 (by omega) (by omega) ?_; conv => whnf) | (refine arU8 (by omega) (by omega) ?_; conv => whnf)))
        refine ⟨3, ⟨by omega, next hn h1⟩, by omega, ?_⟩
        (conv => whnf); (refine imp_auto hA ?_; conv => whnf); exact ⟨rfl, rfl, rfl, (by repeat' (first | exact trivial | exact rfl | apply And.intro)), (by repeat' (first | exact trivial | exact rfl | (intro _ _; exact rfl) | (intro _ hj; exact absurd hj (Nat.not_lt_zero _)) | exact Nat.le_refl _ | exact Or.inl (Or.inl (And.intro (fun h => h) rfl)) | exact Or.inl rfl | apply And.intro)), rfl⟩
    · conv => whnf
      (repeat' (first | (refine And.intro (by (first | omega | assumption | (simp only [nadd_eq]; omega) | (simp [nadd_eq]; omega))) ?_; conv => whnf) | (refine arI64 (by omega) (by omega) ?_; conv => whnf) | (refine arU32 (by omega) (by omega) ?_; conv => whnf) | (refine arU8 (by omega) (by omega) ?_; conv => whnf)))
      refine bsplit (fun h1 => ?_) (fun h1 => ?_)
      · replace h1 : eqS s 4 = true := h1
        conv => whnf
        (refine fin_auto ?_; conv => whnf); refine ⟨rfl, rfl, rfl, int_fin ?_, (by repeat' (first | exact trivial | exact rfl | (intro _ _; exact rfl) | (intro _ hj; exact absurd hj (Nat.not_lt_zero _)) | exact Nat.le_refl _ | exact Or.inl (Or.inl (And.intro (fun h => h) rfl)) | exact Or.inl rfl | apply And.intro)), rfl⟩
        rw [kindZ_at (i := 4) (by omega) hn h1]; rfl
      · replace h1 : eqS s 4 = false := h1
        conv => whnf
        (repeat' (first | (refine And.intro (by (first | omega | assumption | (simp only [nadd_eq]; omega) | (simp [nadd_eq]; omega))) ?_; conv => whnf) | (refine arI64 (by omega) (by omega) ?_; conv => whnf) | (refine arU32 (by omega) (by omega) ?_; conv => whnf) | (refine arU8 (by omega) (by omega) ?_; conv => whnf)))
        refine ⟨4, ⟨by omega, next hn h1⟩, by omega, ?_⟩
        (conv => whnf); (refine imp_auto hA ?_; conv => whnf); exact ⟨rfl, rfl, rfl, (by repeat' (first | exact trivial | exact rfl | apply And.intro)), (by repeat' (first | exact trivial | exact rfl | (intro _ _; exact rfl) | (intro _ hj; exact absurd hj (Nat.not_lt_zero _)) | exact Nat.le_refl _ | exact Or.inl (Or.inl (And.intro (fun h => h) rfl)) | exact Or.inl rfl | apply And.intro)), rfl⟩
    · conv => whnf
      (repeat' (first | (refine And.intro (by (first | omega | assumption | (simp only [nadd_eq]; omega) | (simp [nadd_eq]; omega))) ?_; conv => whnf) | (refine arI64 (by omega) (by omega) ?_; conv => whnf) | (refine arU32 (by omega) (by omega) ?_; conv => whnf) | (refine arU8 (by omega) (by omega) ?_; conv => whnf)))
      refine bsplit (fun h1 => ?_) (fun h1 => ?_)
      · replace h1 : eqS s 5 = true := h1
        conv => whnf
        (refine fin_auto ?_; conv => whnf); refine ⟨rfl, rfl, rfl, int_fin ?_, (by repeat' (first | exact trivial | exact rfl | (intro _ _; exact rfl) | (intro _ hj; exact absurd hj (Nat.not_lt_zero _)) | exact Nat.le_refl _ | exact Or.inl (Or.inl (And.intro (fun h => h) rfl)) | exact Or.inl rfl | apply And.intro)), rfl⟩
        rw [kindZ_at (i := 5) (by omega) hn h1]; rfl
      · replace h1 : eqS s 5 = false := h1
        conv => whnf
        (repeat' (first | (refine And.intro (by (first | omega | assumption | (simp only [nadd_eq]; omega) | (simp [nadd_eq]; omega))) ?_; conv => whnf) | (refine arI64 (by omega) (by omega) ?_; conv => whnf) | (refine arU32 (by omega) (by omega) ?_; conv => whnf) | (refine arU8 (by omega) (by omega) ?_; conv => whnf)))
        refine ⟨5, ⟨by omega, next hn h1⟩, by omega, ?_⟩
        (conv => whnf); (refine imp_auto hA ?_; conv => whnf); exact ⟨rfl, rfl, rfl, (by repeat' (first | exact trivial | exact rfl | apply And.intro)), (by repeat' (first | exact trivial | exact rfl | (intro _ _; exact rfl) | (intro _ hj; exact absurd hj (Nat.not_lt_zero _)) | exact Nat.le_refl _ | exact Or.inl (Or.inl (And.intro (fun h => h) rfl)) | exact Or.inl rfl | apply And.intro)), rfl⟩
    · conv => whnf
      (repeat' (first | (refine And.intro (by (first | omega | assumption | (simp only [nadd_eq]; omega) | (simp [nadd_eq]; omega))) ?_; conv => whnf) | (refine arI64 (by omega) (by omega) ?_; conv => whnf) | (refine arU32 (by omega) (by omega) ?_; conv => whnf) | (refine arU8 (by omega) (by omega) ?_; conv => whnf)))
      refine bsplit (fun h1 => ?_) (fun h1 => ?_)
      · replace h1 : eqS s 6 = true := h1
        conv => whnf
        (refine fin_auto ?_; conv => whnf); refine ⟨rfl, rfl, rfl, int_fin ?_, (by repeat' (first | exact trivial | exact rfl | (intro _ _; exact rfl) | (intro _ hj; exact absurd hj (Nat.not_lt_zero _)) | exact Nat.le_refl _ | exact Or.inl (Or.inl (And.intro (fun h => h) rfl)) | exact Or.inl rfl | apply And.intro)), rfl⟩
        rw [kindZ_at (i := 6) (by omega) hn h1]; rfl
      · replace h1 : eqS s 6 = false := h1
        conv => whnf
        (repeat' (first | (refine And.intro (by (first | omega | assumption | (simp only [nadd_eq]; omega) | (simp [nadd_eq]; omega))) ?_; conv => whnf) | (refine arI64 (by omega) (by omega) ?_; conv => whnf) | (refine arU32 (by omega) (by omega) ?_; conv => whnf) | (refine arU8 (by omega) (by omega) ?_; conv => whnf)))
        refine ⟨6, ⟨by omega, next hn h1⟩, by omega, ?_⟩
        (conv => whnf); (refine imp_auto hA ?_; conv => whnf); exact ⟨rfl, rfl, rfl, (by repeat' (first | exact trivial | exact rfl | apply And.intro)), (by repeat' (first | exact trivial | exact rfl | (intro _ _; exact rfl) | (intro _ hj; exact absurd hj (Nat.not_lt_zero _)) | exact Nat.le_refl _ | exact Or.inl (Or.inl (And.intro (fun h => h) rfl)) | exact Or.inl rfl | apply And.intro)), rfl⟩
    · conv => whnf
      (repeat' (first | (refine And.intro (by (first | omega | assumption | (simp only [nadd_eq]; omega) | (simp [nadd_eq]; omega))) ?_; conv => whnf) | (refine arI64 (by omega) (by omega) ?_; conv => whnf) | (refine arU32 (by omega) (by omega) ?_; conv => whnf) | (refine arU8 (by omega) (by omega) ?_; conv => whnf)))
      refine bsplit (fun h1 => ?_) (fun h1 => ?_)
      · replace h1 : eqS s 7 = true := h1
        conv => whnf
        (refine fin_auto ?_; conv => whnf); refine ⟨rfl, rfl, rfl, int_fin ?_, (by repeat' (first | exact trivial | exact rfl | (intro _ _; exact rfl) | (intro _ hj; exact absurd hj (Nat.not_lt_zero _)) | exact Nat.le_refl _ | exact Or.inl (Or.inl (And.intro (fun h => h) rfl)) | exact Or.inl rfl | apply And.intro)), rfl⟩
        rw [kindZ_at (i := 7) (by omega) hn h1]; rfl
      · replace h1 : eqS s 7 = false := h1
        conv => whnf
        (repeat' (first | (refine And.intro (by (first | omega | assumption | (simp only [nadd_eq]; omega) | (simp [nadd_eq]; omega))) ?_; conv => whnf) | (refine arI64 (by omega) (by omega) ?_; conv => whnf) | (refine arU32 (by omega) (by omega) ?_; conv => whnf) | (refine arU8 (by omega) (by omega) ?_; conv => whnf)))
        refine ⟨7, ⟨by omega, next hn h1⟩, by omega, ?_⟩
        (conv => whnf); (refine imp_auto hA ?_; conv => whnf); exact ⟨rfl, rfl, rfl, (by repeat' (first | exact trivial | exact rfl | apply And.intro)), (by repeat' (first | exact trivial | exact rfl | (intro _ _; exact rfl) | (intro _ hj; exact absurd hj (Nat.not_lt_zero _)) | exact Nat.le_refl _ | exact Or.inl (Or.inl (And.intro (fun h => h) rfl)) | exact Or.inl rfl | apply And.intro)), rfl⟩
    · conv => whnf
      (refine fin_auto ?_; conv => whnf); refine ⟨rfl, rfl, rfl, int_fin ?_, (by repeat' (first | exact trivial | exact rfl | (intro _ _; exact rfl) | (intro _ hj; exact absurd hj (Nat.not_lt_zero _)) | exact Nat.le_refl _ | exact Or.inl (Or.inl (And.intro (fun h => h) rfl)) | exact Or.inl rfl | apply And.intro)), rfl⟩
      rw [kindZ_none hn]; rfl
theorem kind_spec (s : ByteArray) : FSpec Tryd.prog 9 [] 0 [.l (.v (.string s))] fun x h n => x = .t [.l (.v (.int .i64 (kindZ s))), .l (.v (.bool (decide (1 ≤ kindZ s))))] ∧ n = 0 ∧ h = [] := by
  have hx := indexS_spec 0 s rfl
  have hr := kindZ_range s
  have e1 : kindZ s - 1 + 1 = kindZ s := by omega
  have e2 : decide (0 ≤ kindZ s - 1) = decide (1 ≤ kindZ s) := by rw [decide_eq_decide]; omega
  refine spec_of_ev Tryd.func9 ic9_eq (rs := [.t 2, .t 3]) (by kernel_rfl) (by kernel_rfl) (by kernel_rfl) fun G hP hA => ?_
  unfold evF ic9
  conv => whnf
  refine esc_gslice (m := 7) (e := 9) (by rw [hP]; kernel_rfl) (by rw [hP]; kernel_rfl) ?_
  conv => whnf
  (refine call_auto hP (hx) ?_; conv => whnf); (refine ⟨⟨rfl, rfl, rfl, (by repeat' (first | exact trivial | exact rfl | (intro _ _; exact rfl) | (intro _ hj; exact absurd hj (Nat.not_lt_zero _)) | exact Nat.le_refl _ | exact Or.inl (Or.inl (And.intro (fun h => h) rfl)) | exact Or.inl rfl | apply And.intro)), rfl, rfl⟩, ?_⟩; conv => whnf)
  (repeat' (first | (refine And.intro (by (first | omega | assumption | (simp only [nadd_eq]; omega) | (simp [nadd_eq]; omega))) ?_; conv => whnf) | (refine arI64 (by omega) (by omega) ?_; conv => whnf) | (refine arU32 (by omega) (by omega) ?_; conv => whnf) | (refine arU8 (by omega) (by omega) ?_; conv => whnf)))
  rw [e1, e2]
  (refine fin_auto ?_; conv => whnf); exact ⟨rfl, rfl, rfl, rfl, (by repeat' (first | exact trivial | exact rfl | (intro _ _; exact rfl) | (intro _ hj; exact absurd hj (Nat.not_lt_zero _)) | exact Nat.le_refl _ | exact Or.inl (Or.inl (And.intro (fun h => h) rfl)) | exact Or.inl rfl | apply And.intro)), rfl⟩
set_option maxRecDepth 4000 in
set_option maxHeartbeats 1000000 in
theorem buildNames_spec (kind : Int) (s : ByteArray) : FSpec Tryd.prog 3 [] 0 [.l (.v (.int .i64 kind)), .l (.v (.string s))] fun x h n => x = sBool true := by
  have haw := awake17_spec
  have hna := names_spec
  have hfi := fifo_spec kind
  have hti := timed_spec kind
  have hki := kind_spec s
  have next : ∀ {i : Nat}, (∀ j, 1 ≤ j → j < i → eqS s j = false) → eqS s i = false → ∀ j, 1 ≤ j → j < i + 1 → eqS s j = false := fun {i} hn h j h1 h2 => by
    rcases Nat.lt_succ_iff_lt_or_eq.1 h2 with h3 | rfl
    · exact hn j h1 h3
    · exact h
  have comm : ∀ i, ((wordS i).toList == s.toList) = eqS s i := fun i => by unfold eqS; exact BEq.comm
  refine FSpec.mono (Q := fun x h' k => x = sBool true ∧ k = 0 ∧ h' = []) ?_ fun x h k hx => hx.1
  refine spec_of_ev Tryd.func3 ic3_eq (rs := [.t 4]) (by kernel_rfl) (by kernel_rfl) (by kernel_rfl) fun G hP hA => ?_
  unfold evF ic3
  by_cases hk : kind < 1 ∨ 7 < kind
  · have hnm := name_out kind hk
    rw [show (decide (1 ≤ kind) && decide (kind ≤ 5)) = false by rw [Bool.and_eq_false_iff, decide_eq_false_iff_not, decide_eq_false_iff_not]; omega] at hfi
    rw [show decide (kind = 5) = false by rw [decide_eq_false_iff_not]; omega] at hti
    conv => whnf
    (refine call_auto hP (hna) ?_; conv => whnf); (refine ⟨⟨rfl, rfl, rfl, (by repeat' (first | exact trivial | exact rfl | (intro _ _; exact rfl) | (intro _ hj; exact absurd hj (Nat.not_lt_zero _)) | exact Nat.le_refl _ | exact Or.inl (Or.inl (And.intro (fun h => h) rfl)) | exact Or.inl rfl | apply And.intro)), rfl, rfl⟩, ?_⟩; conv => whnf)
    have q5 : ¬ ((!(false == decide (kind = 5))) = true) := by rw [show decide (kind = 5) = false by rw [decide_eq_false_iff_not]; omega]; decide
    have q6 : (1 ≤ kind) → ¬ ((!(false == decide (kind ≤ 5))) = true) := fun h => by rw [show decide (kind ≤ 5) = false by rw [decide_eq_false_iff_not]; omega]; decide
    rcases hk with hk | hk
    all_goals
      (repeat' (first | (refine join_plain ?_; conv => whnf) | (refine dsplit (fun _ => ?_) (fun _ => ?_) <;> conv => whnf)))
      all_goals first | (exfalso; omega) | skip
      (refine call_auto hP (hnm) ?_; conv => whnf); (refine ⟨⟨rfl, rfl, rfl, (by repeat' (first | exact trivial | exact rfl | (intro _ _; exact rfl) | (intro _ hj; exact absurd hj (Nat.not_lt_zero _)) | exact Nat.le_refl _ | exact Or.inl (Or.inl (And.intro (fun h => h) rfl)) | exact Or.inl rfl | apply And.intro)), rfl, rfl⟩, ?_⟩; conv => whnf)
      refine bsplit (fun h => absurd (show (!((wordS 0).toList == (wordS 0).toList)) = true from h) (by simp)) (fun _ => ?_)
      conv => whnf
      (refine call_auto hP (hfi) ?_; conv => whnf); (refine ⟨⟨rfl, rfl, rfl, (by repeat' (first | exact trivial | exact rfl | (intro _ _; exact rfl) | (intro _ hj; exact absurd hj (Nat.not_lt_zero _)) | exact Nat.le_refl _ | exact Or.inl (Or.inl (And.intro (fun h => h) rfl)) | exact Or.inl rfl | apply And.intro)), rfl, rfl⟩, ?_⟩; conv => whnf)
      (repeat' (first | (refine join_plain ?_; conv => whnf) | (refine dsplit (fun _ => ?_) (fun _ => ?_) <;> conv => whnf)))
      all_goals first | (exfalso; omega) | skip
      first | (refine bsplit (fun h => absurd (show (!(false == decide (kind ≤ 5))) = true from h) (q6 (by omega))) (fun _ => ?_); conv => whnf) | skip
      (refine call_auto hP (hti) ?_; conv => whnf); (refine ⟨⟨rfl, rfl, rfl, (by repeat' (first | exact trivial | exact rfl | (intro _ _; exact rfl) | (intro _ hj; exact absurd hj (Nat.not_lt_zero _)) | exact Nat.le_refl _ | exact Or.inl (Or.inl (And.intro (fun h => h) rfl)) | exact Or.inl rfl | apply And.intro)), rfl, rfl⟩, ?_⟩; conv => whnf)
      refine bsplit (fun h => absurd (show (!(false == decide (kind = 5))) = true from h) q5) (fun _ => ?_)
      conv => whnf
      (refine call_auto hP (hki) ?_; conv => whnf); (refine ⟨⟨rfl, rfl, rfl, (by repeat' (first | exact trivial | exact rfl | (intro _ _; exact rfl) | (intro _ hj; exact absurd hj (Nat.not_lt_zero _)) | exact Nat.le_refl _ | exact Or.inl (Or.inl (And.intro (fun h => h) rfl)) | exact Or.inl rfl | apply And.intro)), rfl, rfl⟩, ?_⟩; conv => whnf)
      refine loop_auto (α := Nat) (ds := []) (N := 1) (fun i => [(9, sInt .i64 (i : Int))]) [] (fun _ => [])
        (fun i => (1 ≤ i ∧ i ≤ 8) ∧ ∀ j, 1 ≤ j → j < i → eqS s j = false) (fun i => 8 - i) 1 ⟨by omega, fun j h1 h2 => by omega⟩ ?_ fun i hi => ?_
      · (conv => whnf); (refine imp_auto hA ?_; conv => whnf); exact ⟨rfl, rfl, rfl, (by repeat' (first | exact trivial | exact rfl | apply And.intro)), (by repeat' (first | exact trivial | exact rfl | (intro _ _; exact rfl) | (intro _ hj; exact absurd hj (Nat.not_lt_zero _)) | exact Nat.le_refl _ | exact Or.inl (Or.inl (And.intro (fun h => h) rfl)) | exact Or.inl rfl | apply And.intro)), rfl⟩
      · obtain ⟨hi, hn⟩ := hi
        rcases (show i = 1 ∨ i = 2 ∨ i = 3 ∨ i = 4 ∨ i = 5 ∨ i = 6 ∨ i = 7 ∨ i = 8 by omega) with rfl | rfl | rfl | rfl | rfl | rfl | rfl | rfl
        · conv => whnf
          (repeat' (first | (refine And.intro (by (first | omega | assumption | (simp only [nadd_eq]; omega) | (simp [nadd_eq]; omega))) ?_; conv => whnf) | (refine arI64 (by omega) (by omega) ?_; conv => whnf) | (refine arU32 (by omega) (by omega) ?_; conv => whnf) | (refine arU8 (by omega) (by omega) ?_; conv => whnf)))
          refine bsplit (fun h1 => ?_) (fun h1 => ?_)
          · have h2 : eqS s 1 = true := by rw [← comm]; exact h1
            have hz := kindZ_at (i := 1) (by omega) hn h2
            conv => whnf
            refine dsplit (fun h3 => ?_) (fun h3 => absurd (show (1 : Int) ≤ kindZ s by rw [hz]; decide) h3)
            conv => whnf
            refine dsplit (fun h4 => ?_) (fun h4 => absurd (show kindZ s = 1 by rw [hz]; rfl) h4)
            conv => whnf
            (refine call_auto hP (haw) ?_; conv => whnf); (refine ⟨⟨rfl, rfl, rfl, (by repeat' (first | exact trivial | exact rfl | (intro _ _; exact rfl) | (intro _ hj; exact absurd hj (Nat.not_lt_zero _)) | exact Nat.le_refl _ | exact Or.inl (Or.inl (And.intro (fun h => h) rfl)) | exact Or.inl rfl | apply And.intro)), rfl, rfl⟩, ?_⟩; conv => whnf)
            (refine fin_auto ?_; conv => whnf); exact ⟨rfl, rfl, rfl, rfl, (by repeat' (first | exact trivial | exact rfl | (intro _ _; exact rfl) | (intro _ hj; exact absurd hj (Nat.not_lt_zero _)) | exact Nat.le_refl _ | exact Or.inl (Or.inl (And.intro (fun h => h) rfl)) | exact Or.inl rfl | apply And.intro)), rfl⟩
          · have h2 : eqS s 1 = false := by rw [← comm]; exact h1
            conv => whnf
            (repeat' (first | (refine And.intro (by (first | omega | assumption | (simp only [nadd_eq]; omega) | (simp [nadd_eq]; omega))) ?_; conv => whnf) | (refine arI64 (by omega) (by omega) ?_; conv => whnf) | (refine arU32 (by omega) (by omega) ?_; conv => whnf) | (refine arU8 (by omega) (by omega) ?_; conv => whnf)))
            refine ⟨2, ⟨by omega, next hn h2⟩, by omega, ?_⟩
            (conv => whnf); (refine imp_auto hA ?_; conv => whnf); exact ⟨rfl, rfl, rfl, (by repeat' (first | exact trivial | exact rfl | apply And.intro)), (by repeat' (first | exact trivial | exact rfl | (intro _ _; exact rfl) | (intro _ hj; exact absurd hj (Nat.not_lt_zero _)) | exact Nat.le_refl _ | exact Or.inl (Or.inl (And.intro (fun h => h) rfl)) | exact Or.inl rfl | apply And.intro)), rfl⟩
        · conv => whnf
          (repeat' (first | (refine And.intro (by (first | omega | assumption | (simp only [nadd_eq]; omega) | (simp [nadd_eq]; omega))) ?_; conv => whnf) | (refine arI64 (by omega) (by omega) ?_; conv => whnf) | (refine arU32 (by omega) (by omega) ?_; conv => whnf) | (refine arU8 (by omega) (by omega) ?_; conv => whnf)))
          refine bsplit (fun h1 => ?_) (fun h1 => ?_)
          · have h2 : eqS s 2 = true := by rw [← comm]; exact h1
            have hz := kindZ_at (i := 2) (by omega) hn h2
            conv => whnf
            refine dsplit (fun h3 => ?_) (fun h3 => absurd (show (1 : Int) ≤ kindZ s by rw [hz]; decide) h3)
            conv => whnf
            refine dsplit (fun h4 => ?_) (fun h4 => absurd (show kindZ s = 2 by rw [hz]; rfl) h4)
            conv => whnf
            (refine call_auto hP (haw) ?_; conv => whnf); (refine ⟨⟨rfl, rfl, rfl, (by repeat' (first | exact trivial | exact rfl | (intro _ _; exact rfl) | (intro _ hj; exact absurd hj (Nat.not_lt_zero _)) | exact Nat.le_refl _ | exact Or.inl (Or.inl (And.intro (fun h => h) rfl)) | exact Or.inl rfl | apply And.intro)), rfl, rfl⟩, ?_⟩; conv => whnf)
            (refine fin_auto ?_; conv => whnf); exact ⟨rfl, rfl, rfl, rfl, (by repeat' (first | exact trivial | exact rfl | (intro _ _; exact rfl) | (intro _ hj; exact absurd hj (Nat.not_lt_zero _)) | exact Nat.le_refl _ | exact Or.inl (Or.inl (And.intro (fun h => h) rfl)) | exact Or.inl rfl | apply And.intro)), rfl⟩
          · have h2 : eqS s 2 = false := by rw [← comm]; exact h1
            conv => whnf
            (repeat' (first | (refine And.intro (by (first | omega | assumption | (simp only [nadd_eq]; omega) | (simp [nadd_eq]; omega))) ?_; conv => whnf) | (refine arI64 (by omega) (by omega) ?_; conv => whnf) | (refine arU32 (by omega) (by omega) ?_; conv => whnf) | (refine arU8 (by omega) (by omega) ?_; conv => whnf)))
            refine ⟨3, ⟨by omega, next hn h2⟩, by omega, ?_⟩
            (conv => whnf); (refine imp_auto hA ?_; conv => whnf); exact ⟨rfl, rfl, rfl, (by repeat' (first | exact trivial | exact rfl | apply And.intro)), (by repeat' (first | exact trivial | exact rfl | (intro _ _; exact rfl) | (intro _ hj; exact absurd hj (Nat.not_lt_zero _)) | exact Nat.le_refl _ | exact Or.inl (Or.inl (And.intro (fun h => h) rfl)) | exact Or.inl rfl | apply And.intro)), rfl⟩
        · conv => whnf
          (repeat' (first | (refine And.intro (by (first | omega | assumption | (simp only [nadd_eq]; omega) | (simp [nadd_eq]; omega))) ?_; conv => whnf) | (refine arI64 (by omega) (by omega) ?_; conv => whnf) | (refine arU32 (by omega) (by omega) ?_; conv => whnf) | (refine arU8 (by omega) (by omega) ?_; conv => whnf)))
          refine bsplit (fun h1 => ?_) (fun h1 => ?_)
          · have h2 : eqS s 3 = true := by rw [← comm]; exact h1
            have hz := kindZ_at (i := 3) (by omega) hn h2
            conv => whnf
            refine dsplit (fun h3 => ?_) (fun h3 => absurd (show (1 : Int) ≤ kindZ s by rw [hz]; decide) h3)
            conv => whnf
            refine dsplit (fun h4 => ?_) (fun h4 => absurd (show kindZ s = 3 by rw [hz]; rfl) h4)
            conv => whnf
            (refine call_auto hP (haw) ?_; conv => whnf); (refine ⟨⟨rfl, rfl, rfl, (by repeat' (first | exact trivial | exact rfl | (intro _ _; exact rfl) | (intro _ hj; exact absurd hj (Nat.not_lt_zero _)) | exact Nat.le_refl _ | exact Or.inl (Or.inl (And.intro (fun h => h) rfl)) | exact Or.inl rfl | apply And.intro)), rfl, rfl⟩, ?_⟩; conv => whnf)
            (refine fin_auto ?_; conv => whnf); exact ⟨rfl, rfl, rfl, rfl, (by repeat' (first | exact trivial | exact rfl | (intro _ _; exact rfl) | (intro _ hj; exact absurd hj (Nat.not_lt_zero _)) | exact Nat.le_refl _ | exact Or.inl (Or.inl (And.intro (fun h => h) rfl)) | exact Or.inl rfl | apply And.intro)), rfl⟩
          · have h2 : eqS s 3 = false := by rw [← comm]; exact h1
            conv => whnf
            (repeat' (first | (refine And.intro (by (first | omega | assumption | (simp only [nadd_eq]; omega) | (simp [nadd_eq]; omega))) ?_; conv => whnf) | (refine arI64 (by omega) (by omega) ?_; conv => whnf) | (refine arU32 (by omega) (by omega) ?_; conv => whnf) | (refine arU8 (by omega) (by omega) ?_; conv => whnf)))
            refine ⟨4, ⟨by omega, next hn h2⟩, by omega, ?_⟩
            (conv => whnf); (refine imp_auto hA ?_; conv => whnf); exact ⟨rfl, rfl, rfl, (by repeat' (first | exact trivial | exact rfl | apply And.intro)), (by repeat' (first | exact trivial | exact rfl | (intro _ _; exact rfl) | (intro _ hj; exact absurd hj (Nat.not_lt_zero _)) | exact Nat.le_refl _ | exact Or.inl (Or.inl (And.intro (fun h => h) rfl)) | exact Or.inl rfl | apply And.intro)), rfl⟩
        · conv => whnf
          (repeat' (first | (refine And.intro (by (first | omega | assumption | (simp only [nadd_eq]; omega) | (simp [nadd_eq]; omega))) ?_; conv => whnf) | (refine arI64 (by omega) (by omega) ?_; conv => whnf) | (refine arU32 (by omega) (by omega) ?_; conv => whnf) | (refine arU8 (by omega) (by omega) ?_; conv => whnf)))
          refine bsplit (fun h1 => ?_) (fun h1 => ?_)
          · have h2 : eqS s 4 = true := by rw [← comm]; exact h1
            have hz := kindZ_at (i := 4) (by omega) hn h2
            conv => whnf
            refine dsplit (fun h3 => ?_) (fun h3 => absurd (show (1 : Int) ≤ kindZ s by rw [hz]; decide) h3)
            conv => whnf
            refine dsplit (fun h4 => ?_) (fun h4 => absurd (show kindZ s = 4 by rw [hz]; rfl) h4)
            conv => whnf
            (refine call_auto hP (haw) ?_; conv => whnf); (refine ⟨⟨rfl, rfl, rfl, (by repeat' (first | exact trivial | exact rfl | (intro _ _; exact rfl) | (intro _ hj; exact absurd hj (Nat.not_lt_zero _)) | exact Nat.le_refl _ | exact Or.inl (Or.inl (And.intro (fun h => h) rfl)) | exact Or.inl rfl | apply And.intro)), rfl, rfl⟩, ?_⟩; conv => whnf)
            (refine fin_auto ?_; conv => whnf); exact ⟨rfl, rfl, rfl, rfl, (by repeat' (first | exact trivial | exact rfl | (intro _ _; exact rfl) | (intro _ hj; exact absurd hj (Nat.not_lt_zero _)) | exact Nat.le_refl _ | exact Or.inl (Or.inl (And.intro (fun h => h) rfl)) | exact Or.inl rfl | apply And.intro)), rfl⟩
          · have h2 : eqS s 4 = false := by rw [← comm]; exact h1
            conv => whnf
            (repeat' (first | (refine And.intro (by (first | omega | assumption | (simp only [nadd_eq]; omega) | (simp [nadd_eq]; omega))) ?_; conv => whnf) | (refine arI64 (by omega) (by omega) ?_; conv => whnf) | (refine arU32 (by omega) (by omega) ?_; conv => whnf) | (refine arU8 (by omega) (by omega) ?_; conv => whnf)))
            refine ⟨5, ⟨by omega, next hn h2⟩, by omega, ?_⟩
            (conv => whnf); (refine imp_auto hA ?_; conv => whnf); exact ⟨rfl, rfl, rfl, (by repeat' (first | exact trivial | exact rfl | apply And.intro)), (by repeat' (first | exact trivial | exact rfl | (intro _ _; exact rfl) | (intro _ hj; exact absurd hj (Nat.not_lt_zero _)) | exact Nat.le_refl _ | exact Or.inl (Or.inl (And.intro (fun h => h) rfl)) | exact Or.inl rfl | apply And.intro)), rfl⟩
        · conv => whnf
          (repeat' (first | (refine And.intro (by (first | omega | assumption | (simp only [nadd_eq]; omega) | (simp [nadd_eq]; omega))) ?_; conv => whnf) | (refine arI64 (by omega) (by omega) ?_; conv => whnf) | (refine arU32 (by omega) (by omega) ?_; conv => whnf) | (refine arU8 (by omega) (by omega) ?_; conv => whnf)))
          refine bsplit (fun h1 => ?_) (fun h1 => ?_)
          · have h2 : eqS s 5 = true := by rw [← comm]; exact h1
            have hz := kindZ_at (i := 5) (by omega) hn h2
            conv => whnf
            refine dsplit (fun h3 => ?_) (fun h3 => absurd (show (1 : Int) ≤ kindZ s by rw [hz]; decide) h3)
            conv => whnf
            refine dsplit (fun h4 => ?_) (fun h4 => absurd (show kindZ s = 5 by rw [hz]; rfl) h4)
            conv => whnf
            (refine call_auto hP (haw) ?_; conv => whnf); (refine ⟨⟨rfl, rfl, rfl, (by repeat' (first | exact trivial | exact rfl | (intro _ _; exact rfl) | (intro _ hj; exact absurd hj (Nat.not_lt_zero _)) | exact Nat.le_refl _ | exact Or.inl (Or.inl (And.intro (fun h => h) rfl)) | exact Or.inl rfl | apply And.intro)), rfl, rfl⟩, ?_⟩; conv => whnf)
            (refine fin_auto ?_; conv => whnf); exact ⟨rfl, rfl, rfl, rfl, (by repeat' (first | exact trivial | exact rfl | (intro _ _; exact rfl) | (intro _ hj; exact absurd hj (Nat.not_lt_zero _)) | exact Nat.le_refl _ | exact Or.inl (Or.inl (And.intro (fun h => h) rfl)) | exact Or.inl rfl | apply And.intro)), rfl⟩
          · have h2 : eqS s 5 = false := by rw [← comm]; exact h1
            conv => whnf
            (repeat' (first | (refine And.intro (by (first | omega | assumption | (simp only [nadd_eq]; omega) | (simp [nadd_eq]; omega))) ?_; conv => whnf) | (refine arI64 (by omega) (by omega) ?_; conv => whnf) | (refine arU32 (by omega) (by omega) ?_; conv => whnf) | (refine arU8 (by omega) (by omega) ?_; conv => whnf)))
            refine ⟨6, ⟨by omega, next hn h2⟩, by omega, ?_⟩
            (conv => whnf); (refine imp_auto hA ?_; conv => whnf); exact ⟨rfl, rfl, rfl, (by repeat' (first | exact trivial | exact rfl | apply And.intro)), (by repeat' (first | exact trivial | exact rfl | (intro _ _; exact rfl) | (intro _ hj; exact absurd hj (Nat.not_lt_zero _)) | exact Nat.le_refl _ | exact Or.inl (Or.inl (And.intro (fun h => h) rfl)) | exact Or.inl rfl | apply And.intro)), rfl⟩
        · conv => whnf
          (repeat' (first | (refine And.intro (by (first | omega | assumption | (simp only [nadd_eq]; omega) | (simp [nadd_eq]; omega))) ?_; conv => whnf) | (refine arI64 (by omega) (by omega) ?_; conv => whnf) | (refine arU32 (by omega) (by omega) ?_; conv => whnf) | (refine arU8 (by omega) (by omega) ?_; conv => whnf)))
          refine bsplit (fun h1 => ?_) (fun h1 => ?_)
          · have h2 : eqS s 6 = true := by rw [← comm]; exact h1
            have hz := kindZ_at (i := 6) (by omega) hn h2
            conv => whnf
            refine dsplit (fun h3 => ?_) (fun h3 => absurd (show (1 : Int) ≤ kindZ s by rw [hz]; decide) h3)
            conv => whnf
            refine dsplit (fun h4 => ?_) (fun h4 => absurd (show kindZ s = 6 by rw [hz]; rfl) h4)
            conv => whnf
            (refine call_auto hP (haw) ?_; conv => whnf); (refine ⟨⟨rfl, rfl, rfl, (by repeat' (first | exact trivial | exact rfl | (intro _ _; exact rfl) | (intro _ hj; exact absurd hj (Nat.not_lt_zero _)) | exact Nat.le_refl _ | exact Or.inl (Or.inl (And.intro (fun h => h) rfl)) | exact Or.inl rfl | apply And.intro)), rfl, rfl⟩, ?_⟩; conv => whnf)
            (refine fin_auto ?_; conv => whnf); exact ⟨rfl, rfl, rfl, rfl, (by repeat' (first | exact trivial | exact rfl | (intro _ _; exact rfl) | (intro _ hj; exact absurd hj (Nat.not_lt_zero _)) | exact Nat.le_refl _ | exact Or.inl (Or.inl (And.intro (fun h => h) rfl)) | exact Or.inl rfl | apply And.intro)), rfl⟩
          · have h2 : eqS s 6 = false := by rw [← comm]; exact h1
            conv => whnf
            (repeat' (first | (refine And.intro (by (first | omega | assumption | (simp only [nadd_eq]; omega) | (simp [nadd_eq]; omega))) ?_; conv => whnf) | (refine arI64 (by omega) (by omega) ?_; conv => whnf) | (refine arU32 (by omega) (by omega) ?_; conv => whnf) | (refine arU8 (by omega) (by omega) ?_; conv => whnf)))
            refine ⟨7, ⟨by omega, next hn h2⟩, by omega, ?_⟩
            (conv => whnf); (refine imp_auto hA ?_; conv => whnf); exact ⟨rfl, rfl, rfl, (by repeat' (first | exact trivial | exact rfl | apply And.intro)), (by repeat' (first | exact trivial | exact rfl | (intro _ _; exact rfl) | (intro _ hj; exact absurd hj (Nat.not_lt_zero _)) | exact Nat.le_refl _ | exact Or.inl (Or.inl (And.intro (fun h => h) rfl)) | exact Or.inl rfl | apply And.intro)), rfl⟩
        · conv => whnf
          (repeat' (first | (refine And.intro (by (first | omega | assumption | (simp only [nadd_eq]; omega) | (simp [nadd_eq]; omega))) ?_; conv => whnf) | (refine arI64 (by omega) (by omega) ?_; conv => whnf) | (refine arU32 (by omega) (by omega) ?_; conv => whnf) | (refine arU8 (by omega) (by omega) ?_; conv => whnf)))
          refine bsplit (fun h1 => ?_) (fun h1 => ?_)
          · have h2 : eqS s 7 = true := by rw [← comm]; exact h1
            have hz := kindZ_at (i := 7) (by omega) hn h2
            conv => whnf
            refine dsplit (fun h3 => ?_) (fun h3 => absurd (show (1 : Int) ≤ kindZ s by rw [hz]; decide) h3)
            conv => whnf
            refine dsplit (fun h4 => ?_) (fun h4 => absurd (show kindZ s = 7 by rw [hz]; rfl) h4)
            conv => whnf
            (refine call_auto hP (haw) ?_; conv => whnf); (refine ⟨⟨rfl, rfl, rfl, (by repeat' (first | exact trivial | exact rfl | (intro _ _; exact rfl) | (intro _ hj; exact absurd hj (Nat.not_lt_zero _)) | exact Nat.le_refl _ | exact Or.inl (Or.inl (And.intro (fun h => h) rfl)) | exact Or.inl rfl | apply And.intro)), rfl, rfl⟩, ?_⟩; conv => whnf)
            (refine fin_auto ?_; conv => whnf); exact ⟨rfl, rfl, rfl, rfl, (by repeat' (first | exact trivial | exact rfl | (intro _ _; exact rfl) | (intro _ hj; exact absurd hj (Nat.not_lt_zero _)) | exact Nat.le_refl _ | exact Or.inl (Or.inl (And.intro (fun h => h) rfl)) | exact Or.inl rfl | apply And.intro)), rfl⟩
          · have h2 : eqS s 7 = false := by rw [← comm]; exact h1
            conv => whnf
            (repeat' (first | (refine And.intro (by (first | omega | assumption | (simp only [nadd_eq]; omega) | (simp [nadd_eq]; omega))) ?_; conv => whnf) | (refine arI64 (by omega) (by omega) ?_; conv => whnf) | (refine arU32 (by omega) (by omega) ?_; conv => whnf) | (refine arU8 (by omega) (by omega) ?_; conv => whnf)))
            refine ⟨8, ⟨by omega, next hn h2⟩, by omega, ?_⟩
            (conv => whnf); (refine imp_auto hA ?_; conv => whnf); exact ⟨rfl, rfl, rfl, (by repeat' (first | exact trivial | exact rfl | apply And.intro)), (by repeat' (first | exact trivial | exact rfl | (intro _ _; exact rfl) | (intro _ hj; exact absurd hj (Nat.not_lt_zero _)) | exact Nat.le_refl _ | exact Or.inl (Or.inl (And.intro (fun h => h) rfl)) | exact Or.inl rfl | apply And.intro)), rfl⟩
        · have hz := kindZ_none hn
          conv => whnf
          refine bsplit (fun h3 => ?_) (fun h3 => absurd (show (!decide ((1 : Int) ≤ kindZ s)) = false from h3) (by rw [hz]; decide))
          conv => whnf
          refine dsplit (fun h4 => ?_) (fun h4 => absurd hz h4)
          conv => whnf
          (refine call_auto hP (haw) ?_; conv => whnf); (refine ⟨⟨rfl, rfl, rfl, (by repeat' (first | exact trivial | exact rfl | (intro _ _; exact rfl) | (intro _ hj; exact absurd hj (Nat.not_lt_zero _)) | exact Nat.le_refl _ | exact Or.inl (Or.inl (And.intro (fun h => h) rfl)) | exact Or.inl rfl | apply And.intro)), rfl, rfl⟩, ?_⟩; conv => whnf)
          (refine fin_auto ?_; conv => whnf); exact ⟨rfl, rfl, rfl, rfl, (by repeat' (first | exact trivial | exact rfl | (intro _ _; exact rfl) | (intro _ hj; exact absurd hj (Nat.not_lt_zero _)) | exact Nat.le_refl _ | exact Or.inl (Or.inl (And.intro (fun h => h) rfl)) | exact Or.inl rfl | apply And.intro)), rfl⟩
  · obtain ⟨k, rfl⟩ : ∃ k : Nat, kind = k := ⟨kind.toNat, by omega⟩
    have hnm := name_in k (by omega)
    rcases (show k = 1 ∨ k = 2 ∨ k = 3 ∨ k = 4 ∨ k = 5 ∨ k = 6 ∨ k = 7 by omega) with rfl | rfl | rfl | rfl | rfl | rfl | rfl
    · conv => whnf
      (refine call_auto hP (hna) ?_; conv => whnf); (refine ⟨⟨rfl, rfl, rfl, (by repeat' (first | exact trivial | exact rfl | (intro _ _; exact rfl) | (intro _ hj; exact absurd hj (Nat.not_lt_zero _)) | exact Nat.le_refl _ | exact Or.inl (Or.inl (And.intro (fun h => h) rfl)) | exact Or.inl rfl | apply And.intro)), rfl, rfl⟩, ?_⟩; conv => whnf)
      (repeat' (first | (refine join_plain ?_; conv => whnf) | (refine dsplit (fun _ => ?_) (fun _ => ?_) <;> conv => whnf)))
      (repeat' (first | (refine And.intro (by (first | omega | assumption | (simp only [nadd_eq]; omega) | (simp [nadd_eq]; omega))) ?_; conv => whnf) | (refine arI64 (by omega) (by omega) ?_; conv => whnf) | (refine arU32 (by omega) (by omega) ?_; conv => whnf) | (refine arU8 (by omega) (by omega) ?_; conv => whnf)))
      (refine call_auto hP (hnm) ?_; conv => whnf); (refine ⟨⟨rfl, rfl, rfl, (by repeat' (first | exact trivial | exact rfl | (intro _ _; exact rfl) | (intro _ hj; exact absurd hj (Nat.not_lt_zero _)) | exact Nat.le_refl _ | exact Or.inl (Or.inl (And.intro (fun h => h) rfl)) | exact Or.inl rfl | apply And.intro)), rfl, rfl⟩, ?_⟩; conv => whnf)
      refine bsplit (fun h => absurd (show (!((wordS 1).toList == (wordS 1).toList)) = true from h) (by simp)) (fun _ => ?_)
      conv => whnf
      (refine call_auto hP (hfi) ?_; conv => whnf); (refine ⟨⟨rfl, rfl, rfl, (by repeat' (first | exact trivial | exact rfl | (intro _ _; exact rfl) | (intro _ hj; exact absurd hj (Nat.not_lt_zero _)) | exact Nat.le_refl _ | exact Or.inl (Or.inl (And.intro (fun h => h) rfl)) | exact Or.inl rfl | apply And.intro)), rfl, rfl⟩, ?_⟩; conv => whnf)
      (refine call_auto hP (hti) ?_; conv => whnf); (refine ⟨⟨rfl, rfl, rfl, (by repeat' (first | exact trivial | exact rfl | (intro _ _; exact rfl) | (intro _ hj; exact absurd hj (Nat.not_lt_zero _)) | exact Nat.le_refl _ | exact Or.inl (Or.inl (And.intro (fun h => h) rfl)) | exact Or.inl rfl | apply And.intro)), rfl, rfl⟩, ?_⟩; conv => whnf)
      (refine call_auto hP (hki) ?_; conv => whnf); (refine ⟨⟨rfl, rfl, rfl, (by repeat' (first | exact trivial | exact rfl | (intro _ _; exact rfl) | (intro _ hj; exact absurd hj (Nat.not_lt_zero _)) | exact Nat.le_refl _ | exact Or.inl (Or.inl (And.intro (fun h => h) rfl)) | exact Or.inl rfl | apply And.intro)), rfl, rfl⟩, ?_⟩; conv => whnf)
      refine loop_auto (α := Nat) (ds := []) (N := 1) (fun i => [(9, sInt .i64 (i : Int))]) [] (fun _ => [])
        (fun i => (1 ≤ i ∧ i ≤ 8) ∧ ∀ j, 1 ≤ j → j < i → eqS s j = false) (fun i => 8 - i) 1 ⟨by omega, fun j h1 h2 => by omega⟩ ?_ fun i hi => ?_
      · (conv => whnf); (refine imp_auto hA ?_; conv => whnf); exact ⟨rfl, rfl, rfl, (by repeat' (first | exact trivial | exact rfl | apply And.intro)), (by repeat' (first | exact trivial | exact rfl | (intro _ _; exact rfl) | (intro _ hj; exact absurd hj (Nat.not_lt_zero _)) | exact Nat.le_refl _ | exact Or.inl (Or.inl (And.intro (fun h => h) rfl)) | exact Or.inl rfl | apply And.intro)), rfl⟩
      · obtain ⟨hi, hn⟩ := hi
        rcases (show i = 1 ∨ i = 2 ∨ i = 3 ∨ i = 4 ∨ i = 5 ∨ i = 6 ∨ i = 7 ∨ i = 8 by omega) with rfl | rfl | rfl | rfl | rfl | rfl | rfl | rfl
        · conv => whnf
          (repeat' (first | (refine And.intro (by (first | omega | assumption | (simp only [nadd_eq]; omega) | (simp [nadd_eq]; omega))) ?_; conv => whnf) | (refine arI64 (by omega) (by omega) ?_; conv => whnf) | (refine arU32 (by omega) (by omega) ?_; conv => whnf) | (refine arU8 (by omega) (by omega) ?_; conv => whnf)))
          refine bsplit (fun h1 => ?_) (fun h1 => ?_)
          · have h2 : eqS s 1 = true := by rw [← comm]; exact h1
            have hz := kindZ_at (i := 1) (by omega) hn h2
            conv => whnf
            refine dsplit (fun h3 => ?_) (fun h3 => absurd (show (1 : Int) ≤ kindZ s by rw [hz]; decide) h3)
            conv => whnf
            refine dsplit (fun h4 => ?_) (fun h4 => absurd (show kindZ s = 1 by rw [hz]; rfl) h4)
            conv => whnf
            (refine call_auto hP (haw) ?_; conv => whnf); (refine ⟨⟨rfl, rfl, rfl, (by repeat' (first | exact trivial | exact rfl | (intro _ _; exact rfl) | (intro _ hj; exact absurd hj (Nat.not_lt_zero _)) | exact Nat.le_refl _ | exact Or.inl (Or.inl (And.intro (fun h => h) rfl)) | exact Or.inl rfl | apply And.intro)), rfl, rfl⟩, ?_⟩; conv => whnf)
            (refine fin_auto ?_; conv => whnf); exact ⟨rfl, rfl, rfl, rfl, (by repeat' (first | exact trivial | exact rfl | (intro _ _; exact rfl) | (intro _ hj; exact absurd hj (Nat.not_lt_zero _)) | exact Nat.le_refl _ | exact Or.inl (Or.inl (And.intro (fun h => h) rfl)) | exact Or.inl rfl | apply And.intro)), rfl⟩
          · have h2 : eqS s 1 = false := by rw [← comm]; exact h1
            conv => whnf
            (repeat' (first | (refine And.intro (by (first | omega | assumption | (simp only [nadd_eq]; omega) | (simp [nadd_eq]; omega))) ?_; conv => whnf) | (refine arI64 (by omega) (by omega) ?_; conv => whnf) | (refine arU32 (by omega) (by omega) ?_; conv => whnf) | (refine arU8 (by omega) (by omega) ?_; conv => whnf)))
            refine ⟨2, ⟨by omega, next hn h2⟩, by omega, ?_⟩
            (conv => whnf); (refine imp_auto hA ?_; conv => whnf); exact ⟨rfl, rfl, rfl, (by repeat' (first | exact trivial | exact rfl | apply And.intro)), (by repeat' (first | exact trivial | exact rfl | (intro _ _; exact rfl) | (intro _ hj; exact absurd hj (Nat.not_lt_zero _)) | exact Nat.le_refl _ | exact Or.inl (Or.inl (And.intro (fun h => h) rfl)) | exact Or.inl rfl | apply And.intro)), rfl⟩
        · conv => whnf
          (repeat' (first | (refine And.intro (by (first | omega | assumption | (simp only [nadd_eq]; omega) | (simp [nadd_eq]; omega))) ?_; conv => whnf) | (refine arI64 (by omega) (by omega) ?_; conv => whnf) | (refine arU32 (by omega) (by omega) ?_; conv => whnf) | (refine arU8 (by omega) (by omega) ?_; conv => whnf)))
          refine bsplit (fun h1 => ?_) (fun h1 => ?_)
          · have h2 : eqS s 2 = true := by rw [← comm]; exact h1
            have hz := kindZ_at (i := 2) (by omega) hn h2
            conv => whnf
            refine dsplit (fun h3 => ?_) (fun h3 => absurd (show (1 : Int) ≤ kindZ s by rw [hz]; decide) h3)
            conv => whnf
            refine dsplit (fun h4 => ?_) (fun h4 => absurd (show kindZ s = 2 by rw [hz]; rfl) h4)
            conv => whnf
            (refine call_auto hP (haw) ?_; conv => whnf); (refine ⟨⟨rfl, rfl, rfl, (by repeat' (first | exact trivial | exact rfl | (intro _ _; exact rfl) | (intro _ hj; exact absurd hj (Nat.not_lt_zero _)) | exact Nat.le_refl _ | exact Or.inl (Or.inl (And.intro (fun h => h) rfl)) | exact Or.inl rfl | apply And.intro)), rfl, rfl⟩, ?_⟩; conv => whnf)
            (refine fin_auto ?_; conv => whnf); exact ⟨rfl, rfl, rfl, rfl, (by repeat' (first | exact trivial | exact rfl | (intro _ _; exact rfl) | (intro _ hj; exact absurd hj (Nat.not_lt_zero _)) | exact Nat.le_refl _ | exact Or.inl (Or.inl (And.intro (fun h => h) rfl)) | exact Or.inl rfl | apply And.intro)), rfl⟩
          · have h2 : eqS s 2 = false := by rw [← comm]; exact h1
            conv => whnf
            (repeat' (first | (refine And.intro (by (first | omega | assumption | (simp only [nadd_eq]; omega) | (simp [nadd_eq]; omega))) ?_; conv => whnf) | (refine arI64 (by omega) (by omega) ?_; conv => whnf) | (refine arU32 (by omega) (by omega) ?_; conv => whnf) | (refine arU8 (by omega) (by omega) ?_; conv => whnf)))
            refine ⟨3, ⟨by omega, next hn h2⟩, by omega, ?_⟩
            (conv => whnf); (refine imp_auto hA ?_; conv => whnf); exact ⟨rfl, rfl, rfl, (by repeat' (first | exact trivial | exact rfl | apply And.intro)), (by repeat' (first | exact trivial | exact rfl | (intro _ _; exact rfl) | (intro _ hj; exact absurd hj (Nat.not_lt_zero _)) | exact Nat.le_refl _ | exact Or.inl (Or.inl (And.intro (fun h => h) rfl)) | exact Or.inl rfl | apply And.intro)), rfl⟩
        · conv => whnf
          (repeat' (first | (refine And.intro (by (first | omega | assumption | (simp only [nadd_eq]; omega) | (simp [nadd_eq]; omega))) ?_; conv => whnf) | (refine arI64 (by omega) (by omega) ?_; conv => whnf) | (refine arU32 (by omega) (by omega) ?_; conv => whnf) | (refine arU8 (by omega) (by omega) ?_; conv => whnf)))
          refine bsplit (fun h1 => ?_) (fun h1 => ?_)
          · have h2 : eqS s 3 = true := by rw [← comm]; exact h1
            have hz := kindZ_at (i := 3) (by omega) hn h2
            conv => whnf
            refine dsplit (fun h3 => ?_) (fun h3 => absurd (show (1 : Int) ≤ kindZ s by rw [hz]; decide) h3)
            conv => whnf
            refine dsplit (fun h4 => ?_) (fun h4 => absurd (show kindZ s = 3 by rw [hz]; rfl) h4)
            conv => whnf
            (refine call_auto hP (haw) ?_; conv => whnf); (refine ⟨⟨rfl, rfl, rfl, (by repeat' (first | exact trivial | exact rfl | (intro _ _; exact rfl) | (intro _ hj; exact absurd hj (Nat.not_lt_zero _)) | exact Nat.le_refl _ | exact Or.inl (Or.inl (And.intro (fun h => h) rfl)) | exact Or.inl rfl | apply And.intro)), rfl, rfl⟩, ?_⟩; conv => whnf)
            (refine fin_auto ?_; conv => whnf); exact ⟨rfl, rfl, rfl, rfl, (by repeat' (first | exact trivial | exact rfl | (intro _ _; exact rfl) | (intro _ hj; exact absurd hj (Nat.not_lt_zero _)) | exact Nat.le_refl _ | exact Or.inl (Or.inl (And.intro (fun h => h) rfl)) | exact Or.inl rfl | apply And.intro)), rfl⟩
          · have h2 : eqS s 3 = false := by rw [← comm]; exact h1
            conv => whnf
            (repeat' (first | (refine And.intro (by (first | omega | assumption | (simp only [nadd_eq]; omega) | (simp [nadd_eq]; omega))) ?_; conv => whnf) | (refine arI64 (by omega) (by omega) ?_; conv => whnf) | (refine arU32 (by omega) (by omega) ?_; conv => whnf) | (refine arU8 (by omega) (by omega) ?_; conv => whnf)))
            refine ⟨4, ⟨by omega, next hn h2⟩, by omega, ?_⟩
            (conv => whnf); (refine imp_auto hA ?_; conv => whnf); exact ⟨rfl, rfl, rfl, (by repeat' (first | exact trivial | exact rfl | apply And.intro)), (by repeat' (first | exact trivial | exact rfl | (intro _ _; exact rfl) | (intro _ hj; exact absurd hj (Nat.not_lt_zero _)) | exact Nat.le_refl _ | exact Or.inl (Or.inl (And.intro (fun h => h) rfl)) | exact Or.inl rfl | apply And.intro)), rfl⟩
        · conv => whnf
          (repeat' (first | (refine And.intro (by (first | omega | assumption | (simp only [nadd_eq]; omega) | (simp [nadd_eq]; omega))) ?_; conv => whnf) | (refine arI64 (by omega) (by omega) ?_; conv => whnf) | (refine arU32 (by omega) (by omega) ?_; conv => whnf) | (refine arU8 (by omega) (by omega) ?_; conv => whnf)))
          refine bsplit (fun h1 => ?_) (fun h1 => ?_)
          · have h2 : eqS s 4 = true := by rw [← comm]; exact h1
            have hz := kindZ_at (i := 4) (by omega) hn h2
            conv => whnf
            refine dsplit (fun h3 => ?_) (fun h3 => absurd (show (1 : Int) ≤ kindZ s by rw [hz]; decide) h3)
            conv => whnf
            refine dsplit (fun h4 => ?_) (fun h4 => absurd (show kindZ s = 4 by rw [hz]; rfl) h4)
            conv => whnf
            (refine call_auto hP (haw) ?_; conv => whnf); (refine ⟨⟨rfl, rfl, rfl, (by repeat' (first | exact trivial | exact rfl | (intro _ _; exact rfl) | (intro _ hj; exact absurd hj (Nat.not_lt_zero _)) | exact Nat.le_refl _ | exact Or.inl (Or.inl (And.intro (fun h => h) rfl)) | exact Or.inl rfl | apply And.intro)), rfl, rfl⟩, ?_⟩; conv => whnf)
            (refine fin_auto ?_; conv => whnf); exact ⟨rfl, rfl, rfl, rfl, (by repeat' (first | exact trivial | exact rfl | (intro _ _; exact rfl) | (intro _ hj; exact absurd hj (Nat.not_lt_zero _)) | exact Nat.le_refl _ | exact Or.inl (Or.inl (And.intro (fun h => h) rfl)) | exact Or.inl rfl | apply And.intro)), rfl⟩
          · have h2 : eqS s 4 = false := by rw [← comm]; exact h1
            conv => whnf
            (repeat' (first | (refine And.intro (by (first | omega | assumption | (simp only [nadd_eq]; omega) | (simp [nadd_eq]; omega))) ?_; conv => whnf) | (refine arI64 (by omega) (by omega) ?_; conv => whnf) | (refine arU32 (by omega) (by omega) ?_; conv => whnf) | (refine arU8 (by omega) (by omega) ?_; conv => whnf)))
            refine ⟨5, ⟨by omega, next hn h2⟩, by omega, ?_⟩
            (conv => whnf); (refine imp_auto hA ?_; conv => whnf); exact ⟨rfl, rfl, rfl, (by repeat' (first | exact trivial | exact rfl | apply And.intro)), (by repeat' (first | exact trivial | exact rfl | (intro _ _; exact rfl) | (intro _ hj; exact absurd hj (Nat.not_lt_zero _)) | exact Nat.le_refl _ | exact Or.inl (Or.inl (And.intro (fun h => h) rfl)) | exact Or.inl rfl | apply And.intro)), rfl⟩
        · conv => whnf
          (repeat' (first | (refine And.intro (by (first | omega | assumption | (simp only [nadd_eq]; omega) | (simp [nadd_eq]; omega))) ?_; conv => whnf) | (refine arI64 (by omega) (by omega) ?_; conv => whnf) | (refine arU32 (by omega) (by omega) ?_; conv => whnf) | (refine arU8 (by omega) (by omega) ?_; conv => whnf)))
          refine bsplit (fun h1 => ?_) (fun h1 => ?_)
          · have h2 : eqS s 5 = true := by rw [← comm]; exact h1
            have hz := kindZ_at (i := 5) (by omega) hn h2
            conv => whnf
            refine dsplit (fun h3 => ?_) (fun h3 => absurd (show (1 : Int) ≤ kindZ s by rw [hz]; decide) h3)
            conv => whnf
            refine dsplit (fun h4 => ?_) (fun h4 => absurd (show kindZ s = 5 by rw [hz]; rfl) h4)
            conv => whnf
            (refine call_auto hP (haw) ?_; conv => whnf); (refine ⟨⟨rfl, rfl, rfl, (by repeat' (first | exact trivial | exact rfl | (intro _ _; exact rfl) | (intro _ hj; exact absurd hj (Nat.not_lt_zero _)) | exact Nat.le_refl _ | exact Or.inl (Or.inl (And.intro (fun h => h) rfl)) | exact Or.inl rfl | apply And.intro)), rfl, rfl⟩, ?_⟩; conv => whnf)
            (refine fin_auto ?_; conv => whnf); exact ⟨rfl, rfl, rfl, rfl, (by repeat' (first | exact trivial | exact rfl | (intro _ _; exact rfl) | (intro _ hj; exact absurd hj (Nat.not_lt_zero _)) | exact Nat.le_refl _ | exact Or.inl (Or.inl (And.intro (fun h => h) rfl)) | exact Or.inl rfl | apply And.intro)), rfl⟩
          · have h2 : eqS s 5 = false := by rw [← comm]; exact h1
            conv => whnf
            (repeat' (first | (refine And.intro (by (first | omega | assumption | (simp only [nadd_eq]; omega) | (simp [nadd_eq]; omega))) ?_; conv => whnf) | (refine arI64 (by omega) (by omega) ?_; conv => whnf) | (refine arU32 (by omega) (by omega) ?_; conv => whnf) | (refine arU8 (by omega) (by omega) ?_; conv => whnf)))
            refine ⟨6, ⟨by omega, next hn h2⟩, by omega, ?_⟩
            (conv => whnf); (refine imp_auto hA ?_; conv => whnf); exact ⟨rfl, rfl, rfl, (by repeat' (first | exact trivial | exact rfl | apply And.intro)), (by repeat' (first | exact trivial | exact rfl | (intro _ _; exact rfl) | (intro _ hj; exact absurd hj (Nat.not_lt_zero _)) | exact Nat.le_refl _ | exact Or.inl (Or.inl (And.intro (fun h => h) rfl)) | exact Or.inl rfl | apply And.intro)), rfl⟩
        · conv => whnf
          (repeat' (first | (refine And.intro (by (first | omega | assumption | (simp only [nadd_eq]; omega) | (simp [nadd_eq]; omega))) ?_; conv => whnf) | (refine arI64 (by omega) (by omega) ?_; conv => whnf) | (refine arU32 (by omega) (by omega) ?_; conv => whnf) | (refine arU8 (by omega) (by omega) ?_; conv => whnf)))
          refine bsplit (fun h1 => ?_) (fun h1 => ?_)
          · have h2 : eqS s 6 = true := by rw [← comm]; exact h1
            have hz := kindZ_at (i := 6) (by omega) hn h2
            conv => whnf
            refine dsplit (fun h3 => ?_) (fun h3 => absurd (show (1 : Int) ≤ kindZ s by rw [hz]; decide) h3)
            conv => whnf
            refine dsplit (fun h4 => ?_) (fun h4 => absurd (show kindZ s = 6 by rw [hz]; rfl) h4)
            conv => whnf
            (refine call_auto hP (haw) ?_; conv => whnf); (refine ⟨⟨rfl, rfl, rfl, (by repeat' (first | exact trivial | exact rfl | (intro _ _; exact rfl) | (intro _ hj; exact absurd hj (Nat.not_lt_zero _)) | exact Nat.le_refl _ | exact Or.inl (Or.inl (And.intro (fun h => h) rfl)) | exact Or.inl rfl | apply And.intro)), rfl, rfl⟩, ?_⟩; conv => whnf)
            (refine fin_auto ?_; conv => whnf); exact ⟨rfl, rfl, rfl, rfl, (by repeat' (first | exact trivial | exact rfl | (intro _ _; exact rfl) | (intro _ hj; exact absurd hj (Nat.not_lt_zero _)) | exact Nat.le_refl _ | exact Or.inl (Or.inl (And.intro (fun h => h) rfl)) | exact Or.inl rfl | apply And.intro)), rfl⟩
          · have h2 : eqS s 6 = false := by rw [← comm]; exact h1
            conv => whnf
            (repeat' (first | (refine And.intro (by (first | omega | assumption | (simp only [nadd_eq]; omega) | (simp [nadd_eq]; omega))) ?_; conv => whnf) | (refine arI64 (by omega) (by omega) ?_; conv => whnf) | (refine arU32 (by omega) (by omega) ?_; conv => whnf) | (refine arU8 (by omega) (by omega) ?_; conv => whnf)))
            refine ⟨7, ⟨by omega, next hn h2⟩, by omega, ?_⟩
            (conv => whnf); (refine imp_auto hA ?_; conv => whnf); exact ⟨rfl, rfl, rfl, (by repeat' (first | exact trivial | exact rfl | apply And.intro)), (by repeat' (first | exact trivial | exact rfl | (intro _ _; exact rfl) | (intro _ hj; exact absurd hj (Nat.not_lt_zero _)) | exact Nat.le_refl _ | exact Or.inl (Or.inl (And.intro (fun h => h) rfl)) | exact Or.inl rfl | apply And.intro)), rfl⟩
        · conv => whnf
          (repeat' (first | (refine And.intro (by (first | omega | assumption | (simp only [nadd_eq]; omega) | (simp [nadd_eq]; omega))) ?_; conv => whnf) | (refine arI64 (by omega) (by omega) ?_; conv => whnf) | (refine arU32 (by omega) (by omega) ?_; conv => whnf) | (refine arU8 (by omega) (by omega) ?_; conv => whnf)))
          refine bsplit (fun h1 => ?_) (fun h1 => ?_)
          · have h2 : eqS s 7 = true := by rw [← comm]; exact h1
            have hz := kindZ_at (i := 7) (by omega) hn h2
            conv => whnf
            refine dsplit (fun h3 => ?_) (fun h3 => absurd (show (1 : Int) ≤ kindZ s by rw [hz]; decide) h3)
            conv => whnf
            refine dsplit (fun h4 => ?_) (fun h4 => absurd (show kindZ s = 7 by rw [hz]; rfl) h4)
            conv => whnf
            (refine call_auto hP (haw) ?_; conv => whnf); (refine ⟨⟨rfl, rfl, rfl, (by repeat' (first | exact trivial | exact rfl | (intro _ _; exact rfl) | (intro _ hj; exact absurd hj (Nat.not_lt_zero _)) | exact Nat.le_refl _ | exact Or.inl (Or.inl (And.intro (fun h => h) rfl)) | exact Or.inl rfl | apply And.intro)), rfl, rfl⟩, ?_⟩; conv => whnf)
            (refine fin_auto ?_; conv => whnf); exact ⟨rfl, rfl, rfl, rfl, (by repeat' (first | exact trivial | exact rfl | (intro _ _; exact rfl) | (intro _ hj; exact absurd hj (Nat.not_lt_zero _)) | exact Nat.le_refl _ | exact Or.inl (Or.inl (And.intro (fun h => h) rfl)) | exact Or.inl rfl | apply And.intro)), rfl⟩
          · have h2 : eqS s 7 = false := by rw [← comm]; exact h1
            conv => whnf
            (repeat' (first | (refine And.intro (by (first | omega | assumption | (simp only [nadd_eq]; omega) | (simp [nadd_eq]; omega))) ?_; conv => whnf) | (refine arI64 (by omega) (by omega) ?_; conv => whnf) | (refine arU32 (by omega) (by omega) ?_; conv => whnf) | (refine arU8 (by omega) (by omega) ?_; conv => whnf)))
            refine ⟨8, ⟨by omega, next hn h2⟩, by omega, ?_⟩
            (conv => whnf); (refine imp_auto hA ?_; conv => whnf); exact ⟨rfl, rfl, rfl, (by repeat' (first | exact trivial | exact rfl | apply And.intro)), (by repeat' (first | exact trivial | exact rfl | (intro _ _; exact rfl) | (intro _ hj; exact absurd hj (Nat.not_lt_zero _)) | exact Nat.le_refl _ | exact Or.inl (Or.inl (And.intro (fun h => h) rfl)) | exact Or.inl rfl | apply And.intro)), rfl⟩
        · have hz := kindZ_none hn
          conv => whnf
          refine bsplit (fun h3 => ?_) (fun h3 => absurd (show (!decide ((1 : Int) ≤ kindZ s)) = false from h3) (by rw [hz]; decide))
          conv => whnf
          refine dsplit (fun h4 => ?_) (fun h4 => absurd hz h4)
          conv => whnf
          (refine call_auto hP (haw) ?_; conv => whnf); (refine ⟨⟨rfl, rfl, rfl, (by repeat' (first | exact trivial | exact rfl | (intro _ _; exact rfl) | (intro _ hj; exact absurd hj (Nat.not_lt_zero _)) | exact Nat.le_refl _ | exact Or.inl (Or.inl (And.intro (fun h => h) rfl)) | exact Or.inl rfl | apply And.intro)), rfl, rfl⟩, ?_⟩; conv => whnf)
          (refine fin_auto ?_; conv => whnf); exact ⟨rfl, rfl, rfl, rfl, (by repeat' (first | exact trivial | exact rfl | (intro _ _; exact rfl) | (intro _ hj; exact absurd hj (Nat.not_lt_zero _)) | exact Nat.le_refl _ | exact Or.inl (Or.inl (And.intro (fun h => h) rfl)) | exact Or.inl rfl | apply And.intro)), rfl⟩
    · conv => whnf
      (refine call_auto hP (hna) ?_; conv => whnf); (refine ⟨⟨rfl, rfl, rfl, (by repeat' (first | exact trivial | exact rfl | (intro _ _; exact rfl) | (intro _ hj; exact absurd hj (Nat.not_lt_zero _)) | exact Nat.le_refl _ | exact Or.inl (Or.inl (And.intro (fun h => h) rfl)) | exact Or.inl rfl | apply And.intro)), rfl, rfl⟩, ?_⟩; conv => whnf)
      (repeat' (first | (refine join_plain ?_; conv => whnf) | (refine dsplit (fun _ => ?_) (fun _ => ?_) <;> conv => whnf)))
      (repeat' (first | (refine And.intro (by (first | omega | assumption | (simp only [nadd_eq]; omega) | (simp [nadd_eq]; omega))) ?_; conv => whnf) | (refine arI64 (by omega) (by omega) ?_; conv => whnf) | (refine arU32 (by omega) (by omega) ?_; conv => whnf) | (refine arU8 (by omega) (by omega) ?_; conv => whnf)))
      (refine call_auto hP (hnm) ?_; conv => whnf); (refine ⟨⟨rfl, rfl, rfl, (by repeat' (first | exact trivial | exact rfl | (intro _ _; exact rfl) | (intro _ hj; exact absurd hj (Nat.not_lt_zero _)) | exact Nat.le_refl _ | exact Or.inl (Or.inl (And.intro (fun h => h) rfl)) | exact Or.inl rfl | apply And.intro)), rfl, rfl⟩, ?_⟩; conv => whnf)
      refine bsplit (fun h => absurd (show (!((wordS 2).toList == (wordS 2).toList)) = true from h) (by simp)) (fun _ => ?_)
      conv => whnf
      (refine call_auto hP (hfi) ?_; conv => whnf); (refine ⟨⟨rfl, rfl, rfl, (by repeat' (first | exact trivial | exact rfl | (intro _ _; exact rfl) | (intro _ hj; exact absurd hj (Nat.not_lt_zero _)) | exact Nat.le_refl _ | exact Or.inl (Or.inl (And.intro (fun h => h) rfl)) | exact Or.inl rfl | apply And.intro)), rfl, rfl⟩, ?_⟩; conv => whnf)
      (refine call_auto hP (hti) ?_; conv => whnf); (refine ⟨⟨rfl, rfl, rfl, (by repeat' (first | exact trivial | exact rfl | (intro _ _; exact rfl) | (intro _ hj; exact absurd hj (Nat.not_lt_zero _)) | exact Nat.le_refl _ | exact Or.inl (Or.inl (And.intro (fun h => h) rfl)) | exact Or.inl rfl | apply And.intro)), rfl, rfl⟩, ?_⟩; conv => whnf)
      (refine call_auto hP (hki) ?_; conv => whnf); (refine ⟨⟨rfl, rfl, rfl, (by repeat' (first | exact trivial | exact rfl | (intro _ _; exact rfl) | (intro _ hj; exact absurd hj (Nat.not_lt_zero _)) | exact Nat.le_refl _ | exact Or.inl (Or.inl (And.intro (fun h => h) rfl)) | exact Or.inl rfl | apply And.intro)), rfl, rfl⟩, ?_⟩; conv => whnf)
      refine loop_auto (α := Nat) (ds := []) (N := 1) (fun i => [(9, sInt .i64 (i : Int))]) [] (fun _ => [])
        (fun i => (1 ≤ i ∧ i ≤ 8) ∧ ∀ j, 1 ≤ j → j < i → eqS s j = false) (fun i => 8 - i) 1 ⟨by omega, fun j h1 h2 => by omega⟩ ?_ fun i hi => ?_
      · (conv => whnf); (refine imp_auto hA ?_; conv => whnf); exact ⟨rfl, rfl, rfl, (by repeat' (first | exact trivial | exact rfl | apply And.intro)), (by repeat' (first | exact trivial | exact rfl | (intro _ _; exact rfl) | (intro _ hj; exact absurd hj (Nat.not_lt_zero _)) | exact Nat.le_refl _ | exact Or.inl (Or.inl (And.intro (fun h => h) rfl)) | exact Or.inl rfl | apply And.intro)), rfl⟩
      · obtain ⟨hi, hn⟩ := hi
        rcases (show i = 1 ∨ i = 2 ∨ i = 3 ∨ i = 4 ∨ i = 5 ∨ i = 6 ∨ i = 7 ∨ i = 8 by omega) with rfl | rfl | rfl | rfl | rfl | rfl | rfl | rfl
        · conv => whnf
          (repeat' (first | (refine And.intro (by (first | omega | assumption | (simp only [nadd_eq]; omega) | (simp [nadd_eq]; omega))) ?_; conv => whnf) | (refine arI64 (by omega) (by omega) ?_; conv => whnf) | (refine arU32 (by omega) (by omega) ?_; conv => whnf) | (refine arU8 (by omega) (by omega) ?_; conv => whnf)))
          refine bsplit (fun h1 => ?_) (fun h1 => ?_)
          · have h2 : eqS s 1 = true := by rw [← comm]; exact h1
            have hz := kindZ_at (i := 1) (by omega) hn h2
            conv => whnf
            refine dsplit (fun h3 => ?_) (fun h3 => absurd (show (1 : Int) ≤ kindZ s by rw [hz]; decide) h3)
            conv => whnf
            refine dsplit (fun h4 => ?_) (fun h4 => absurd (show kindZ s = 1 by rw [hz]; rfl) h4)
            conv => whnf
            (refine call_auto hP (haw) ?_; conv => whnf); (refine ⟨⟨rfl, rfl, rfl, (by repeat' (first | exact trivial | exact rfl | (intro _ _; exact rfl) | (intro _ hj; exact absurd hj (Nat.not_lt_zero _)) | exact Nat.le_refl _ | exact Or.inl (Or.inl (And.intro (fun h => h) rfl)) | exact Or.inl rfl | apply And.intro)), rfl, rfl⟩, ?_⟩; conv => whnf)
            (refine fin_auto ?_; conv => whnf); exact ⟨rfl, rfl, rfl, rfl, (by repeat' (first | exact trivial | exact rfl | (intro _ _; exact rfl) | (intro _ hj; exact absurd hj (Nat.not_lt_zero _)) | exact Nat.le_refl _ | exact Or.inl (Or.inl (And.intro (fun h => h) rfl)) | exact Or.inl rfl | apply And.intro)), rfl⟩
          · have h2 : eqS s 1 = false := by rw [← comm]; exact h1
            conv => whnf
            (repeat' (first | (refine And.intro (by (first | omega | assumption | (simp only [nadd_eq]; omega) | (simp [nadd_eq]; omega))) ?_; conv => whnf) | (refine arI64 (by omega) (by omega) ?_; conv => whnf) | (refine arU32 (by omega) (by omega) ?_; conv => whnf) | (refine arU8 (by omega) (by omega) ?_; conv => whnf)))
            refine ⟨2, ⟨by omega, next hn h2⟩, by omega, ?_⟩
            (conv => whnf); (refine imp_auto hA ?_; conv => whnf); exact ⟨rfl, rfl, rfl, (by repeat' (first | exact trivial | exact rfl | apply And.intro)), (by repeat' (first | exact trivial | exact rfl | (intro _ _; exact rfl) | (intro _ hj; exact absurd hj (Nat.not_lt_zero _)) | exact Nat.le_refl _ | exact Or.inl (Or.inl (And.intro (fun h => h) rfl)) | exact Or.inl rfl | apply And.intro)), rfl⟩
        · conv => whnf
          (repeat' (first | (refine And.intro (by (first | omega | assumption | (simp only [nadd_eq]; omega) | (simp [nadd_eq]; omega))) ?_; conv => whnf) | (refine arI64 (by omega) (by omega) ?_; conv => whnf) | (refine arU32 (by omega) (by omega) ?_; conv => whnf) | (refine arU8 (by omega) (by omega) ?_; conv => whnf)))
          refine bsplit (fun h1 => ?_) (fun h1 => ?_)
          · have h2 : eqS s 2 = true := by rw [← comm]; exact h1
            have hz := kindZ_at (i := 2) (by omega) hn h2
            conv => whnf
            refine dsplit (fun h3 => ?_) (fun h3 => absurd (show (1 : Int) ≤ kindZ s by rw [hz]; decide) h3)
            conv => whnf
            refine dsplit (fun h4 => ?_) (fun h4 => absurd (show kindZ s = 2 by rw [hz]; rfl) h4)
            conv => whnf
            (refine call_auto hP (haw) ?_; conv => whnf); (refine ⟨⟨rfl, rfl, rfl, (by repeat' (first | exact trivial | exact rfl | (intro _ _; exact rfl) | (intro _ hj; exact absurd hj (Nat.not_lt_zero _)) | exact Nat.le_refl _ | exact Or.inl (Or.inl (And.intro (fun h => h) rfl)) | exact Or.inl rfl | apply And.intro)), rfl, rfl⟩, ?_⟩; conv => whnf)
            (refine fin_auto ?_; conv => whnf); exact ⟨rfl, rfl, rfl, rfl, (by repeat' (first | exact trivial | exact rfl | (intro _ _; exact rfl) | (intro _ hj; exact absurd hj (Nat.not_lt_zero _)) | exact Nat.le_refl _ | exact Or.inl (Or.inl (And.intro (fun h => h) rfl)) | exact Or.inl rfl | apply And.intro)), rfl⟩
          · have h2 : eqS s 2 = false := by rw [← comm]; exact h1
            conv => whnf
            (repeat' (first | (refine And.intro (by (first | omega | assumption | (simp only [nadd_eq]; omega) | (simp [nadd_eq]; omega))) ?_; conv => whnf) | (refine arI64 (by omega) (by omega) ?_; conv => whnf) | (refine arU32 (by omega) (by omega) ?_; conv => whnf) | (refine arU8 (by omega) (by omega) ?_; conv => whnf)))
            refine ⟨3, ⟨by omega, next hn h2⟩, by omega, ?_⟩
            (conv => whnf); (refine imp_auto hA ?_; conv => whnf); exact ⟨rfl, rfl, rfl, (by repeat' (first | exact trivial | exact rfl | apply And.intro)), (by repeat' (first | exact trivial | exact rfl | (intro _ _; exact rfl) | (intro _ hj; exact absurd hj (Nat.not_lt_zero _)) | exact Nat.le_refl _ | exact Or.inl (Or.inl (And.intro (fun h => h) rfl)) | exact Or.inl rfl | apply And.intro)), rfl⟩
        · conv => whnf
          (repeat' (first | (refine And.intro (by (first | omega | assumption | (simp only [nadd_eq]; omega) | (simp [nadd_eq]; omega))) ?_; conv => whnf) | (refine arI64 (by omega) (by omega) ?_; conv => whnf) | (refine arU32 (by omega) (by omega) ?_; conv => whnf) | (refine arU8 (by omega) (by omega) ?_; conv => whnf)))
          refine bsplit (fun h1 => ?_) (fun h1 => ?_)
          · have h2 : eqS s 3 = true := by rw [← comm]; exact h1
            have hz := kindZ_at (i := 3) (by omega) hn h2
            conv => whnf
            refine dsplit (fun h3 => ?_) (fun h3 => absurd (show (1 : Int) ≤ kindZ s by rw [hz]; decide) h3)
            conv => whnf
            refine dsplit (fun h4 => ?_) (fun h4 => absurd (show kindZ s = 3 by rw [hz]; rfl) h4)
            conv => whnf
            (refine call_auto hP (haw) ?_; conv => whnf); (refine ⟨⟨rfl, rfl, rfl, (by repeat' (first | exact trivial | exact rfl | (intro _ _; exact rfl) | (intro _ hj; exact absurd hj (Nat.not_lt_zero _)) | exact Nat.le_refl _ | exact Or.inl (Or.inl (And.intro (fun h => h) rfl)) | exact Or.inl rfl | apply And.intro)), rfl, rfl⟩, ?_⟩; conv => whnf)
            (refine fin_auto ?_; conv => whnf); exact ⟨rfl, rfl, rfl, rfl, (by repeat' (first | exact trivial | exact rfl | (intro _ _; exact rfl) | (intro _ hj; exact absurd hj (Nat.not_lt_zero _)) | exact Nat.le_refl _ | exact Or.inl (Or.inl (And.intro (fun h => h) rfl)) | exact Or.inl rfl | apply And.intro)), rfl⟩
          · have h2 : eqS s 3 = false := by rw [← comm]; exact h1
            conv => whnf
            (repeat' (first | (refine And.intro (by (first | omega | assumption | (simp only [nadd_eq]; omega) | (simp [nadd_eq]; omega))) ?_; conv => whnf) | (refine arI64 (by omega) (by omega) ?_; conv => whnf) | (refine arU32 (by omega) (by omega) ?_; conv => whnf) | (refine arU8 (by omega) (by omega) ?_; conv => whnf)))
            refine ⟨4, ⟨by omega, next hn h2⟩, by omega, ?_⟩
            (conv => whnf); (refine imp_auto hA ?_; conv => whnf); exact ⟨rfl, rfl, rfl, (by repeat' (first | exact trivial | exact rfl | apply And.intro)), (by repeat' (first | exact trivial | exact rfl | (intro _ _; exact rfl) | (intro _ hj; exact absurd hj (Nat.not_lt_zero _)) | exact Nat.le_refl _ | exact Or.inl (Or.inl (And.intro (fun h => h) rfl)) | exact Or.inl rfl | apply And.intro)), rfl⟩
        · conv => whnf
          (repeat' (first | (refine And.intro (by (first | omega | assumption | (simp only [nadd_eq]; omega) | (simp [nadd_eq]; omega))) ?_; conv => whnf) | (refine arI64 (by omega) (by omega) ?_; conv => whnf) | (refine arU32 (by omega) (by omega) ?_; conv => whnf) | (refine arU8 (by omega) (by omega) ?_; conv => whnf)))
          refine bsplit (fun h1 => ?_) (fun h1 => ?_)
          · have h2 : eqS s 4 = true := by rw [← comm]; exact h1
            have hz := kindZ_at (i := 4) (by omega) hn h2
            conv => whnf
            refine dsplit (fun h3 => ?_) (fun h3 => absurd (show (1 : Int) ≤ kindZ s by rw [hz]; decide) h3)
            conv => whnf
            refine dsplit (fun h4 => ?_) (fun h4 => absurd (show kindZ s = 4 by rw [hz]; rfl) h4)
            conv => whnf
            (refine call_auto hP (haw) ?_; conv => whnf); (refine ⟨⟨rfl, rfl, rfl, (by repeat' (first | exact trivial | exact rfl | (intro _ _; exact rfl) | (intro _ hj; exact absurd hj (Nat.not_lt_zero _)) | exact Nat.le_refl _ | exact Or.inl (Or.inl (And.intro (fun h => h) rfl)) | exact Or.inl rfl | apply And.intro)), rfl, rfl⟩, ?_⟩; conv => whnf)
            (refine fin_auto ?_; conv => whnf); exact ⟨rfl, rfl, rfl, rfl, (by repeat' (first | exact trivial | exact rfl | (intro _ _; exact rfl) | (intro _ hj; exact absurd hj (Nat.not_lt_zero _)) | exact Nat.le_refl _ | exact Or.inl (Or.inl (And.intro (fun h => h) rfl)) | exact Or.inl rfl | apply And.intro)), rfl⟩
          · have h2 : eqS s 4 = false := by rw [← comm]; exact h1
            conv => whnf
            (repeat' (first | (refine And.intro (by (first | omega | assumption | (simp only [nadd_eq]; omega) | (simp [nadd_eq]; omega))) ?_; conv => whnf) | (refine arI64 (by omega) (by omega) ?_; conv => whnf) | (refine arU32 (by omega) (by omega) ?_; conv => whnf) | (refine arU8 (by omega) (by omega) ?_; conv => whnf)))
            refine ⟨5, ⟨by omega, next hn h2⟩, by omega, ?_⟩
            (conv => whnf); (refine imp_auto hA ?_; conv => whnf); exact ⟨rfl, rfl, rfl, (by repeat' (first | exact trivial | exact rfl | apply And.intro)), (by repeat' (first | exact trivial | exact rfl | (intro _ _; exact rfl) | (intro _ hj; exact absurd hj (Nat.not_lt_zero _)) | exact Nat.le_refl _ | exact Or.inl (Or.inl (And.intro (fun h => h) rfl)) | exact Or.inl rfl | apply And.intro)), rfl⟩
        · conv => whnf
          (repeat' (first | (refine And.intro (by (first | omega | assumption | (simp only [nadd_eq]; omega) | (simp [nadd_eq]; omega))) ?_; conv => whnf) | (refine arI64 (by omega) (by omega) ?_; conv => whnf) | (refine arU32 (by omega) (by omega) ?_; conv => whnf) | (refine arU8 (by omega) (by omega) ?_; conv => whnf)))
          refine bsplit (fun h1 => ?_) (fun h1 => ?_)
          · have h2 : eqS s 5 = true := by rw [← comm]; exact h1
            have hz := kindZ_at (i := 5) (by omega) hn h2
            conv => whnf
            refine dsplit (fun h3 => ?_) (fun h3 => absurd (show (1 : Int) ≤ kindZ s by rw [hz]; decide) h3)
            conv => whnf
            refine dsplit (fun h4 => ?_) (fun h4 => absurd (show kindZ s = 5 by rw [hz]; rfl) h4)
            conv => whnf
            (refine call_auto hP (haw) ?_; conv => whnf); (refine ⟨⟨rfl, rfl, rfl, (by repeat' (first | exact trivial | exact rfl | (intro _ _; exact rfl) | (intro _ hj; exact absurd hj (Nat.not_lt_zero _)) | exact Nat.le_refl _ | exact Or.inl (Or.inl (And.intro (fun h => h) rfl)) | exact Or.inl rfl | apply And.intro)), rfl, rfl⟩, ?_⟩; conv => whnf)
            (refine fin_auto ?_; conv => whnf); exact ⟨rfl, rfl, rfl, rfl, (by repeat' (first | exact trivial | exact rfl | (intro _ _; exact rfl) | (intro _ hj; exact absurd hj (Nat.not_lt_zero _)) | exact Nat.le_refl _ | exact Or.inl (Or.inl (And.intro (fun h => h) rfl)) | exact Or.inl rfl | apply And.intro)), rfl⟩
          · have h2 : eqS s 5 = false := by rw [← comm]; exact h1
            conv => whnf
            (repeat' (first | (refine And.intro (by (first | omega | assumption | (simp only [nadd_eq]; omega) | (simp [nadd_eq]; omega))) ?_; conv => whnf) | (refine arI64 (by omega) (by omega) ?_; conv => whnf) | (refine arU32 (by omega) (by omega) ?_; conv => whnf) | (refine arU8 (by omega) (by omega) ?_; conv => whnf)))
            refine ⟨6, ⟨by omega, next hn h2⟩, by omega, ?_⟩
            (conv => whnf); (refine imp_auto hA ?_; conv => whnf); exact ⟨rfl, rfl, rfl, (by repeat' (first | exact trivial | exact rfl | apply And.intro)), (by repeat' (first | exact trivial | exact rfl | (intro _ _; exact rfl) | (intro _ hj; exact absurd hj (Nat.not_lt_zero _)) | exact Nat.le_refl _ | exact Or.inl (Or.inl (And.intro (fun h => h) rfl)) | exact Or.inl rfl | apply And.intro)), rfl⟩
        · conv => whnf
          (repeat' (first | (refine And.intro (by (first | omega | assumption | (simp only [nadd_eq]; omega) | (simp [nadd_eq]; omega))) ?_; conv => whnf) | (refine arI64 (by omega) (by omega) ?_; conv => whnf) | (refine arU32 (by omega) (by omega) ?_; conv => whnf) | (refine arU8 (by omega) (by omega) ?_; conv => whnf)))
          refine bsplit (fun h1 => ?_) (fun h1 => ?_)
          · have h2 : eqS s 6 = true := by rw [← comm]; exact h1
            have hz := kindZ_at (i := 6) (by omega) hn h2
            conv => whnf
            refine dsplit (fun h3 => ?_) (fun h3 => absurd (show (1 : Int) ≤ kindZ s by rw [hz]; decide) h3)
            conv => whnf
            refine dsplit (fun h4 => ?_) (fun h4 => absurd (show kindZ s = 6 by rw [hz]; rfl) h4)
            conv => whnf
            (refine call_auto hP (haw) ?_; conv => whnf); (refine ⟨⟨rfl, rfl, rfl, (by repeat' (first | exact trivial | exact rfl | (intro _ _; exact rfl) | (intro _ hj; exact absurd hj (Nat.not_lt_zero _)) | exact Nat.le_refl _ | exact Or.inl (Or.inl (And.intro (fun h => h) rfl)) | exact Or.inl rfl | apply And.intro)), rfl, rfl⟩, ?_⟩; conv => whnf)
            (refine fin_auto ?_; conv => whnf); exact ⟨rfl, rfl, rfl, rfl, (by repeat' (first | exact trivial | exact rfl | (intro _ _; exact rfl) | (intro _ hj; exact absurd hj (Nat.not_lt_zero _)) | exact Nat.le_refl _ | exact Or.inl (Or.inl (And.intro (fun h => h) rfl)) | exact Or.inl rfl | apply And.intro)), rfl⟩
          · have h2 : eqS s 6 = false := by rw [← comm]; exact h1
            conv => whnf
            (repeat' (first | (refine And.intro (by (first | omega | assumption | (simp only [nadd_eq]; omega) | (simp [nadd_eq]; omega))) ?_; conv => whnf) | (refine arI64 (by omega) (by omega) ?_; conv => whnf) | (refine arU32 (by omega) (by omega) ?_; conv => whnf) | (refine arU8 (by omega) (by omega) ?_; conv => whnf)))
            refine ⟨7, ⟨by omega, next hn h2⟩, by omega, ?_⟩
            (conv => whnf); (refine imp_auto hA ?_; conv => whnf); exact ⟨rfl, rfl, rfl, (by repeat' (first | exact trivial | exact rfl | apply And.intro)), (by repeat' (first | exact trivial | exact rfl | (intro _ _; exact rfl) | (intro _ hj; exact absurd hj (Nat.not_lt_zero _)) | exact Nat.le_refl _ | exact Or.inl (Or.inl (And.intro (fun h => h) rfl)) | exact Or.inl rfl | apply And.intro)), rfl⟩
        · conv => whnf
          (repeat' (first | (refine And.intro (by (first | omega | assumption | (simp only [nadd_eq]; omega) | (simp [nadd_eq]; omega))) ?_; conv => whnf) | (refine arI64 (by omega) (by omega) ?_; conv => whnf) | (refine arU32 (by omega) (by omega) ?_; conv => whnf) | (refine arU8 (by omega) (by omega) ?_; conv => whnf)))
          refine bsplit (fun h1 => ?_) (fun h1 => ?_)
          · have h2 : eqS s 7 = true := by rw [← comm]; exact h1
            have hz := kindZ_at (i := 7) (by omega) hn h2
            conv => whnf
            refine dsplit (fun h3 => ?_) (fun h3 => absurd (show (1 : Int) ≤ kindZ s by rw [hz]; decide) h3)
            conv => whnf
            refine dsplit (fun h4 => ?_) (fun h4 => absurd (show kindZ s = 7 by rw [hz]; rfl) h4)
            conv => whnf
            (refine call_auto hP (haw) ?_; conv => whnf); (refine ⟨⟨rfl, rfl, rfl, (by repeat' (first | exact trivial | exact rfl | (intro _ _; exact rfl) | (intro _ hj; exact absurd hj (Nat.not_lt_zero _)) | exact Nat.le_refl _ | exact Or.inl (Or.inl (And.intro (fun h => h) rfl)) | exact Or.inl rfl | apply And.intro)), rfl, rfl⟩, ?_⟩; conv => whnf)
            (refine fin_auto ?_; conv => whnf); exact ⟨rfl, rfl, rfl, rfl, (by repeat' (first | exact trivial | exact rfl | (intro _ _; exact rfl) | (intro _ hj; exact absurd hj (Nat.not_lt_zero _)) | exact Nat.le_refl _ | exact Or.inl (Or.inl (And.intro (fun h => h) rfl)) | exact Or.inl rfl | apply And.intro)), rfl⟩
          · have h2 : eqS s 7 = false := by rw [← comm]; exact h1
            conv => whnf
            (repeat' (first | (refine And.intro (by (first | omega | assumption | (simp only [nadd_eq]; omega) | (simp [nadd_eq]; omega))) ?_; conv => whnf) | (refine arI64 (by omega) (by omega) ?_; conv => whnf) | (refine arU32 (by omega) (by omega) ?_; conv => whnf) | (refine arU8 (by omega) (by omega) ?_; conv => whnf)))
            refine ⟨8, ⟨by omega, next hn h2⟩, by omega, ?_⟩
            (conv => whnf); (refine imp_auto hA ?_; conv => whnf); exact ⟨rfl, rfl, rfl, (by repeat' (first | exact trivial | exact rfl | apply And.intro)), (by repeat' (first | exact trivial | exact rfl | (intro _ _; exact rfl) | (intro _ hj; exact absurd hj (Nat.not_lt_zero _)) | exact Nat.le_refl _ | exact Or.inl (Or.inl (And.intro (fun h => h) rfl)) | exact Or.inl rfl | apply And.intro)), rfl⟩
        · have hz := kindZ_none hn
          conv => whnf
          refine bsplit (fun h3 => ?_) (fun h3 => absurd (show (!decide ((1 : Int) ≤ kindZ s)) = false from h3) (by rw [hz]; decide))
          conv => whnf
          refine dsplit (fun h4 => ?_) (fun h4 => absurd hz h4)
          conv => whnf
          (refine call_auto hP (haw) ?_; conv => whnf); (refine ⟨⟨rfl, rfl, rfl, (by repeat' (first | exact trivial | exact rfl | (intro _ _; exact rfl) | (intro _ hj; exact absurd hj (Nat.not_lt_zero _)) | exact Nat.le_refl _ | exact Or.inl (Or.inl (And.intro (fun h => h) rfl)) | exact Or.inl rfl | apply And.intro)), rfl, rfl⟩, ?_⟩; conv => whnf)
          (refine fin_auto ?_; conv => whnf); exact ⟨rfl, rfl, rfl, rfl, (by repeat' (first | exact trivial | exact rfl | (intro _ _; exact rfl) | (intro _ hj; exact absurd hj (Nat.not_lt_zero _)) | exact Nat.le_refl _ | exact Or.inl (Or.inl (And.intro (fun h => h) rfl)) | exact Or.inl rfl | apply And.intro)), rfl⟩
    · conv => whnf
      (refine call_auto hP (hna) ?_; conv => whnf); (refine ⟨⟨rfl, rfl, rfl, (by repeat' (first | exact trivial | exact rfl | (intro _ _; exact rfl) | (intro _ hj; exact absurd hj (Nat.not_lt_zero _)) | exact Nat.le_refl _ | exact Or.inl (Or.inl (And.intro (fun h => h) rfl)) | exact Or.inl rfl | apply And.intro)), rfl, rfl⟩, ?_⟩; conv => whnf)
      (repeat' (first | (refine join_plain ?_; conv => whnf) | (refine dsplit (fun _ => ?_) (fun _ => ?_) <;> conv => whnf)))
      (repeat' (first | (refine And.intro (by (first | omega | assumption | (simp only [nadd_eq]; omega) | (simp [nadd_eq]; omega))) ?_; conv => whnf) | (refine arI64 (by omega) (by omega) ?_; conv => whnf) | (refine arU32 (by omega) (by omega) ?_; conv => whnf) | (refine arU8 (by omega) (by omega) ?_; conv => whnf)))
      (refine call_auto hP (hnm) ?_; conv => whnf); (refine ⟨⟨rfl, rfl, rfl, (by repeat' (first | exact trivial | exact rfl | (intro _ _; exact rfl) | (intro _ hj; exact absurd hj (Nat.not_lt_zero _)) | exact Nat.le_refl _ | exact Or.inl (Or.inl (And.intro (fun h => h) rfl)) | exact Or.inl rfl | apply And.intro)), rfl, rfl⟩, ?_⟩; conv => whnf)
      refine bsplit (fun h => absurd (show (!((wordS 3).toList == (wordS 3).toList)) = true from h) (by simp)) (fun _ => ?_)
      conv => whnf
      (refine call_auto hP (hfi) ?_; conv => whnf); (refine ⟨⟨rfl, rfl, rfl, (by repeat' (first | exact trivial | exact rfl | (intro _ _; exact rfl) | (intro _ hj; exact absurd hj (Nat.not_lt_zero _)) | exact Nat.le_refl _ | exact Or.inl (Or.inl (And.intro (fun h => h) rfl)) | exact Or.inl rfl | apply And.intro)), rfl, rfl⟩, ?_⟩; conv => whnf)
      (refine call_auto hP (hti) ?_; conv => whnf); (refine ⟨⟨rfl, rfl, rfl, (by repeat' (first | exact trivial | exact rfl | (intro _ _; exact rfl) | (intro _ hj; exact absurd hj (Nat.not_lt_zero _)) | exact Nat.le_refl _ | exact Or.inl (Or.inl (And.intro (fun h => h) rfl)) | exact Or.inl rfl | apply And.intro)), rfl, rfl⟩, ?_⟩; conv => whnf)
      (refine call_auto hP (hki) ?_; conv => whnf); (refine ⟨⟨rfl, rfl, rfl, (by repeat' (first | exact trivial | exact rfl | (intro _ _; exact rfl) | (intro _ hj; exact absurd hj (Nat.not_lt_zero _)) | exact Nat.le_refl _ | exact Or.inl (Or.inl (And.intro (fun h => h) rfl)) | exact Or.inl rfl | apply And.intro)), rfl, rfl⟩, ?_⟩; conv => whnf)
      refine loop_auto (α := Nat) (ds := []) (N := 1) (fun i => [(9, sInt .i64 (i : Int))]) [] (fun _ => [])
        (fun i => (1 ≤ i ∧ i ≤ 8) ∧ ∀ j, 1 ≤ j → j < i → eqS s j = false) (fun i => 8 - i) 1 ⟨by omega, fun j h1 h2 => by omega⟩ ?_ fun i hi => ?_
      · (conv => whnf); (refine imp_auto hA ?_; conv => whnf); exact ⟨rfl, rfl, rfl, (by repeat' (first | exact trivial | exact rfl | apply And.intro)), (by repeat' (first | exact trivial | exact rfl | (intro _ _; exact rfl) | (intro _ hj; exact absurd hj (Nat.not_lt_zero _)) | exact Nat.le_refl _ | exact Or.inl (Or.inl (And.intro (fun h => h) rfl)) | exact Or.inl rfl | apply And.intro)), rfl⟩
      · obtain ⟨hi, hn⟩ := hi
        rcases (show i = 1 ∨ i = 2 ∨ i = 3 ∨ i = 4 ∨ i = 5 ∨ i = 6 ∨ i = 7 ∨ i = 8 by omega) with rfl | rfl | rfl | rfl | rfl | rfl | rfl | rfl
        · conv => whnf
          (repeat' (first | (refine And.intro (by (first | omega | assumption | (simp only [nadd_eq]; omega) | (simp [nadd_eq]; omega))) ?_; conv => whnf) | (refine arI64 (by omega) (by omega) ?_; conv => whnf) | (refine arU32 (by omega) (by omega) ?_; conv => whnf) | (refine arU8 (by omega) (by omega) ?_; conv => whnf)))
          refine bsplit (fun h1 => ?_) (fun h1 => ?_)
          · have h2 : eqS s 1 = true := by rw [← comm]; exact h1
            have hz := kindZ_at (i := 1) (by omega) hn h2
            conv => whnf
            refine dsplit (fun h3 => ?_) (fun h3 => absurd (show (1 : Int) ≤ kindZ s by rw [hz]; decide) h3)
            conv => whnf
            refine dsplit (fun h4 => ?_) (fun h4 => absurd (show kindZ s = 1 by rw [hz]; rfl) h4)
            conv => whnf
            (refine call_auto hP (haw) ?_; conv => whnf); (refine ⟨⟨rfl, rfl, rfl, (by repeat' (first | exact trivial | exact rfl | (intro _ _; exact rfl) | (intro _ hj; exact absurd hj (Nat.not_lt_zero _)) | exact Nat.le_refl _ | exact Or.inl (Or.inl (And.intro (fun h => h) rfl)) | exact Or.inl rfl | apply And.intro)), rfl, rfl⟩, ?_⟩; conv => whnf)
            (refine fin_auto ?_; conv => whnf); exact ⟨rfl, rfl, rfl, rfl, (by repeat' (first | exact trivial | exact rfl | (intro _ _; exact rfl) | (intro _ hj; exact absurd hj (Nat.not_lt_zero _)) | exact Nat.le_refl _ | exact Or.inl (Or.inl (And.intro (fun h => h) rfl)) | exact Or.inl rfl | apply And.intro)), rfl⟩
          · have h2 : eqS s 1 = false := by rw [← comm]; exact h1
            conv => whnf
            (repeat' (first | (refine And.intro (by (first | omega | assumption | (simp only [nadd_eq]; omega) | (simp [nadd_eq]; omega))) ?_; conv => whnf) | (refine arI64 (by omega) (by omega) ?_; conv => whnf) | (refine arU32 (by omega) (by omega) ?_; conv => whnf) | (refine arU8 (by omega) (by omega) ?_; conv => whnf)))
            refine ⟨2, ⟨by omega, next hn h2⟩, by omega, ?_⟩
            (conv => whnf); (refine imp_auto hA ?_; conv => whnf); exact ⟨rfl, rfl, rfl, (by repeat' (first | exact trivial | exact rfl | apply And.intro)), (by repeat' (first | exact trivial | exact rfl | (intro _ _; exact rfl) | (intro _ hj; exact absurd hj (Nat.not_lt_zero _)) | exact Nat.le_refl _ | exact Or.inl (Or.inl (And.intro (fun h => h) rfl)) | exact Or.inl rfl | apply And.intro)), rfl⟩
        · conv => whnf
          (repeat' (first | (refine And.intro (by (first | omega | assumption | (simp only [nadd_eq]; omega) | (simp [nadd_eq]; omega))) ?_; conv => whnf) | (refine arI64 (by omega) (by omega) ?_; conv => whnf) | (refine arU32 (by omega) (by omega) ?_; conv => whnf) | (refine arU8 (by omega) (by omega) ?_; conv => whnf)))
          refine bsplit (fun h1 => ?_) (fun h1 => ?_)
          · have h2 : eqS s 2 = true := by rw [← comm]; exact h1
            have hz := kindZ_at (i := 2) (by omega) hn h2
            conv => whnf
            refine dsplit (fun h3 => ?_) (fun h3 => absurd (show (1 : Int) ≤ kindZ s by rw [hz]; decide) h3)
            conv => whnf
            refine dsplit (fun h4 => ?_) (fun h4 => absurd (show kindZ s = 2 by rw [hz]; rfl) h4)
            conv => whnf
            (refine call_auto hP (haw) ?_; conv => whnf); (refine ⟨⟨rfl, rfl, rfl, (by repeat' (first | exact trivial | exact rfl | (intro _ _; exact rfl) | (intro _ hj; exact absurd hj (Nat.not_lt_zero _)) | exact Nat.le_refl _ | exact Or.inl (Or.inl (And.intro (fun h => h) rfl)) | exact Or.inl rfl | apply And.intro)), rfl, rfl⟩, ?_⟩; conv => whnf)
            (refine fin_auto ?_; conv => whnf); exact ⟨rfl, rfl, rfl, rfl, (by repeat' (first | exact trivial | exact rfl | (intro _ _; exact rfl) | (intro _ hj; exact absurd hj (Nat.not_lt_zero _)) | exact Nat.le_refl _ | exact Or.inl (Or.inl (And.intro (fun h => h) rfl)) | exact Or.inl rfl | apply And.intro)), rfl⟩
          · have h2 : eqS s 2 = false := by rw [← comm]; exact h1
            conv => whnf
            (repeat' (first | (refine And.intro (by (first | omega | assumption | (simp only [nadd_eq]; omega) | (simp [nadd_eq]; omega))) ?_; conv => whnf) | (refine arI64 (by omega) (by omega) ?_; conv => whnf) | (refine arU32 (by omega) (by omega) ?_; conv => whnf) | (refine arU8 (by omega) (by omega) ?_; conv => whnf)))
            refine ⟨3, ⟨by omega, next hn h2⟩, by omega, ?_⟩
            (conv => whnf); (refine imp_auto hA ?_; conv => whnf); exact ⟨rfl, rfl, rfl, (by repeat' (first | exact trivial | exact rfl | apply And.intro)), (by repeat' (first | exact trivial | exact rfl | (intro _ _; exact rfl) | (intro _ hj; exact absurd hj (Nat.not_lt_zero _)) | exact Nat.le_refl _ | exact Or.inl (Or.inl (And.intro (fun h => h) rfl)) | exact Or.inl rfl | apply And.intro)), rfl⟩
        · conv => whnf
          (repeat' (first | (refine And.intro (by (first | omega | assumption | (simp only [nadd_eq]; omega) | (simp [nadd_eq]; omega))) ?_; conv => whnf) | (refine arI64 (by omega) (by omega) ?_; conv => whnf) | (refine arU32 (by omega) (by omega) ?_; conv => whnf) | (refine arU8 (by omega) (by omega) ?_; conv => whnf)))
          refine bsplit (fun h1 => ?_) (fun h1 => ?_)
          · have h2 : eqS s 3 = true := by rw [← comm]; exact h1
            have hz := kindZ_at (i := 3) (by omega) hn h2
            conv => whnf
            refine dsplit (fun h3 => ?_) (fun h3 => absurd (show (1 : Int) ≤ kindZ s by rw [hz]; decide) h3)
            conv => whnf
            refine dsplit (fun h4 => ?_) (fun h4 => absurd (show kindZ s = 3 by rw [hz]; rfl) h4)
            conv => whnf
            (refine call_auto hP (haw) ?_; conv => whnf); (refine ⟨⟨rfl, rfl, rfl, (by repeat' (first | exact trivial | exact rfl | (intro _ _; exact rfl) | (intro _ hj; exact absurd hj (Nat.not_lt_zero _)) | exact Nat.le_refl _ | exact Or.inl (Or.inl (And.intro (fun h => h) rfl)) | exact Or.inl rfl | apply And.intro)), rfl, rfl⟩, ?_⟩; conv => whnf)
            (refine fin_auto ?_; conv => whnf); exact ⟨rfl, rfl, rfl, rfl, (by repeat' (first | exact trivial | exact rfl | (intro _ _; exact rfl) | (intro _ hj; exact absurd hj (Nat.not_lt_zero _)) | exact Nat.le_refl _ | exact Or.inl (Or.inl (And.intro (fun h => h) rfl)) | exact Or.inl rfl | apply And.intro)), rfl⟩
          · have h2 : eqS s 3 = false := by rw [← comm]; exact h1
            conv => whnf
            (repeat' (first | (refine And.intro (by (first | omega | assumption | (simp only [nadd_eq]; omega) | (simp [nadd_eq]; omega))) ?_; conv => whnf) | (refine arI64 (by omega) (by omega) ?_; conv => whnf) | (refine arU32 (by omega) (by omega) ?_; conv => whnf) | (refine arU8 (by omega) (by omega) ?_; conv => whnf)))
            refine ⟨4, ⟨by omega, next hn h2⟩, by omega, ?_⟩
            (conv => whnf); (refine imp_auto hA ?_; conv => whnf); exact ⟨rfl, rfl, rfl, (by repeat' (first | exact trivial | exact rfl | apply And.intro)), (by repeat' (first | exact trivial | exact rfl | (intro _ _; exact rfl) | (intro _ hj; exact absurd hj (Nat.not_lt_zero _)) | exact Nat.le_refl _ | exact Or.inl (Or.inl (And.intro (fun h => h) rfl)) | exact Or.inl rfl | apply And.intro)), rfl⟩
        · conv => whnf
          (repeat' (first | (refine And.intro (by (first | omega | assumption | (simp only [nadd_eq]; omega) | (simp [nadd_eq]; omega))) ?_; conv => whnf) | (refine arI64 (by omega) (by omega) ?_; conv => whnf) | (refine arU32 (by omega) (by omega) ?_; conv => whnf) | (refine arU8 (by omega) (by omega) ?_; conv => whnf)))
          refine bsplit (fun h1 => ?_) (fun h1 => ?_)
          · have h2 : eqS s 4 = true := by rw [← comm]; exact h1
            have hz := kindZ_at (i := 4) (by omega) hn h2
            conv => whnf
            refine dsplit (fun h3 => ?_) (fun h3 => absurd (show (1 : Int) ≤ kindZ s by rw [hz]; decide) h3)
            conv => whnf
            refine dsplit (fun h4 => ?_) (fun h4 => absurd (show kindZ s = 4 by rw [hz]; rfl) h4)
            conv => whnf
            (refine call_auto hP (haw) ?_; conv => whnf); (refine ⟨⟨rfl, rfl, rfl, (by repeat' (first | exact trivial | exact rfl | (intro _ _; exact rfl) | (intro _ hj; exact absurd hj (Nat.not_lt_zero _)) | exact Nat.le_refl _ | exact Or.inl (Or.inl (And.intro (fun h => h) rfl)) | exact Or.inl rfl | apply And.intro)), rfl, rfl⟩, ?_⟩; conv => whnf)
            (refine fin_auto ?_; conv => whnf); exact ⟨rfl, rfl, rfl, rfl, (by repeat' (first | exact trivial | exact rfl | (intro _ _; exact rfl) | (intro _ hj; exact absurd hj (Nat.not_lt_zero _)) | exact Nat.le_refl _ | exact Or.inl (Or.inl (And.intro (fun h => h) rfl)) | exact Or.inl rfl | apply And.intro)), rfl⟩
          · have h2 : eqS s 4 = false := by rw [← comm]; exact h1
            conv => whnf
            (repeat' (first | (refine And.intro (by (first | omega | assumption | (simp only [nadd_eq]; omega) | (simp [nadd_eq]; omega))) ?_; conv => whnf) | (refine arI64 (by omega) (by omega) ?_; conv => whnf) | (refine arU32 (by omega) (by omega) ?_; conv => whnf) | (refine arU8 (by omega) (by omega) ?_; conv => whnf)))
            refine ⟨5, ⟨by omega, next hn h2⟩, by omega, ?_⟩
            (conv => whnf); (refine imp_auto hA ?_; conv => whnf); exact ⟨rfl, rfl, rfl, (by repeat' (first | exact trivial | exact rfl | apply And.intro)), (by repeat' (first | exact trivial | exact rfl | (intro _ _; exact rfl) | (intro _ hj; exact absurd hj (Nat.not_lt_zero _)) | exact Nat.le_refl _ | exact Or.inl (Or.inl (And.intro (fun h => h) rfl)) | exact Or.inl rfl | apply And.intro)), rfl⟩
        · conv => whnf
          (repeat' (first | (refine And.intro (by (first | omega | assumption | (simp only [nadd_eq]; omega) | (simp [nadd_eq]; omega))) ?_; conv => whnf) | (refine arI64 (by omega) (by omega) ?_; conv => whnf) | (refine arU32 (by omega) (by omega) ?_; conv => whnf) | (refine arU8 (by omega) (by omega) ?_; conv => whnf)))
          refine bsplit (fun h1 => ?_) (fun h1 => ?_)
          · have h2 : eqS s 5 = true := by rw [← comm]; exact h1
            have hz := kindZ_at (i := 5) (by omega) hn h2
            conv => whnf
            refine dsplit (fun h3 => ?_) (fun h3 => absurd (show (1 : Int) ≤ kindZ s by rw [hz]; decide) h3)
            conv => whnf
            refine dsplit (fun h4 => ?_) (fun h4 => absurd (show kindZ s = 5 by rw [hz]; rfl) h4)
            conv => whnf
            (refine call_auto hP (haw) ?_; conv => whnf); (refine ⟨⟨rfl, rfl, rfl, (by repeat' (first | exact trivial | exact rfl | (intro _ _; exact rfl) | (intro _ hj; exact absurd hj (Nat.not_lt_zero _)) | exact Nat.le_refl _ | exact Or.inl (Or.inl (And.intro (fun h => h) rfl)) | exact Or.inl rfl | apply And.intro)), rfl, rfl⟩, ?_⟩; conv => whnf)
            (refine fin_auto ?_; conv => whnf); exact ⟨rfl, rfl, rfl, rfl, (by repeat' (first | exact trivial | exact rfl | (intro _ _; exact rfl) | (intro _ hj; exact absurd hj (Nat.not_lt_zero _)) | exact Nat.le_refl _ | exact Or.inl (Or.inl (And.intro (fun h => h) rfl)) | exact Or.inl rfl | apply And.intro)), rfl⟩
          · have h2 : eqS s 5 = false := by rw [← comm]; exact h1
            conv => whnf
            (repeat' (first | (refine And.intro (by (first | omega | assumption | (simp only [nadd_eq]; omega) | (simp [nadd_eq]; omega))) ?_; conv => whnf) | (refine arI64 (by omega) (by omega) ?_; conv => whnf) | (refine arU32 (by omega) (by omega) ?_; conv => whnf) | (refine arU8 (by omega) (by omega) ?_; conv => whnf)))
            refine ⟨6, ⟨by omega, next hn h2⟩, by omega, ?_⟩
            (conv => whnf); (refine imp_auto hA ?_; conv => whnf); exact ⟨rfl, rfl, rfl, (by repeat' (first | exact trivial | exact rfl | apply And.intro)), (by repeat' (first | exact trivial | exact rfl | (intro _ _; exact rfl) | (intro _ hj; exact absurd hj (Nat.not_lt_zero _)) | exact Nat.le_refl _ | exact Or.inl (Or.inl (And.intro (fun h => h) rfl)) | exact Or.inl rfl | apply And.intro)), rfl⟩
        · conv => whnf
          (repeat' (first | (refine And.intro (by (first | omega | assumption | (simp only [nadd_eq]; omega) | (simp [nadd_eq]; omega))) ?_; conv => whnf) | (refine arI64 (by omega) (by omega) ?_; conv => whnf) | (refine arU32 (by omega) (by omega) ?_; conv => whnf) | (refine arU8 (by omega) (by omega) ?_; conv => whnf)))
          refine bsplit (fun h1 => ?_) (fun h1 => ?_)
          · have h2 : eqS s 6 = true := by rw [← comm]; exact h1
            have hz := kindZ_at (i := 6) (by omega) hn h2
            conv => whnf
            refine dsplit (fun h3 => ?_) (fun h3 => absurd (show (1 : Int) ≤ kindZ s by rw [hz]; decide) h3)
            conv => whnf
            refine dsplit (fun h4 => ?_) (fun h4 => absurd (show kindZ s = 6 by rw [hz]; rfl) h4)
            conv => whnf
            (refine call_auto hP (haw) ?_; conv => whnf); (refine ⟨⟨rfl, rfl, rfl, (by repeat' (first | exact trivial | exact rfl | (intro _ _; exact rfl) | (intro _ hj; exact absurd hj (Nat.not_lt_zero _)) | exact Nat.le_refl _ | exact Or.inl (Or.inl (And.intro (fun h => h) rfl)) | exact Or.inl rfl | apply And.intro)), rfl, rfl⟩, ?_⟩; conv => whnf)
            (refine fin_auto ?_; conv => whnf); exact ⟨rfl, rfl, rfl, rfl, (by repeat' (first | exact trivial | exact rfl | (intro _ _; exact rfl) | (intro _ hj; exact absurd hj (Nat.not_lt_zero _)) | exact Nat.le_refl _ | exact Or.inl (Or.inl (And.intro (fun h => h) rfl)) | exact Or.inl rfl | apply And.intro)), rfl⟩
          · have h2 : eqS s 6 = false := by rw [← comm]; exact h1
            conv => whnf
            (repeat' (first | (refine And.intro (by (first | omega | assumption | (simp only [nadd_eq]; omega) | (simp [nadd_eq]; omega))) ?_; conv => whnf) | (refine arI64 (by omega) (by omega) ?_; conv => whnf) | (refine arU32 (by omega) (by omega) ?_; conv => whnf) | (refine arU8 (by omega) (by omega) ?_; conv => whnf)))
            refine ⟨7, ⟨by omega, next hn h2⟩, by omega, ?_⟩
            (conv => whnf); (refine imp_auto hA ?_; conv => whnf); exact ⟨rfl, rfl, rfl, (by repeat' (first | exact trivial | exact rfl | apply And.intro)), (by repeat' (first | exact trivial | exact rfl | (intro _ _; exact rfl) | (intro _ hj; exact absurd hj (Nat.not_lt_zero _)) | exact Nat.le_refl _ | exact Or.inl (Or.inl (And.intro (fun h => h) rfl)) | exact Or.inl rfl | apply And.intro)), rfl⟩
        · conv => whnf
          (repeat' (first | (refine And.intro (by (first | omega | assumption | (simp only [nadd_eq]; omega) | (simp [nadd_eq]; omega))) ?_; conv => whnf) | (refine arI64 (by omega) (by omega) ?_; conv => whnf) | (refine arU32 (by omega) (by omega) ?_; conv => whnf) | (refine arU8 (by omega) (by omega) ?_; conv => whnf)))
          refine bsplit (fun h1 => ?_) (fun h1 => ?_)
          · have h2 : eqS s 7 = true := by rw [← comm]; exact h1
            have hz := kindZ_at (i := 7) (by omega) hn h2
            conv => whnf
            refine dsplit (fun h3 => ?_) (fun h3 => absurd (show (1 : Int) ≤ kindZ s by rw [hz]; decide) h3)
            conv => whnf
            refine dsplit (fun h4 => ?_) (fun h4 => absurd (show kindZ s = 7 by rw [hz]; rfl) h4)
            conv => whnf
            (refine call_auto hP (haw) ?_; conv => whnf); (refine ⟨⟨rfl, rfl, rfl, (by repeat' (first | exact trivial | exact rfl | (intro _ _; exact rfl) | (intro _ hj; exact absurd hj (Nat.not_lt_zero _)) | exact Nat.le_refl _ | exact Or.inl (Or.inl (And.intro (fun h => h) rfl)) | exact Or.inl rfl | apply And.intro)), rfl, rfl⟩, ?_⟩; conv => whnf)
            (refine fin_auto ?_; conv => whnf); exact ⟨rfl, rfl, rfl, rfl, (by repeat' (first | exact trivial | exact rfl | (intro _ _; exact rfl) | (intro _ hj; exact absurd hj (Nat.not_lt_zero _)) | exact Nat.le_refl _ | exact Or.inl (Or.inl (And.intro (fun h => h) rfl)) | exact Or.inl rfl | apply And.intro)), rfl⟩
          · have h2 : eqS s 7 = false := by rw [← comm]; exact h1
            conv => whnf
            (repeat' (first | (refine And.intro (by (first | omega | assumption | (simp only [nadd_eq]; omega) | (simp [nadd_eq]; omega))) ?_; conv => whnf) | (refine arI64 (by omega) (by omega) ?_; conv => whnf) | (refine arU32 (by omega) (by omega) ?_; conv => whnf) | (refine arU8 (by omega) (by omega) ?_; conv => whnf)))
            refine ⟨8, ⟨by omega, next hn h2⟩, by omega, ?_⟩
            (conv => whnf); (refine imp_auto hA ?_; conv => whnf); exact ⟨rfl, rfl, rfl, (by repeat' (first | exact trivial | exact rfl | apply And.intro)), (by repeat' (first | exact trivial | exact rfl | (intro _ _; exact rfl) | (intro _ hj; exact absurd hj (Nat.not_lt_zero _)) | exact Nat.le_refl _ | exact Or.inl (Or.inl (And.intro (fun h => h) rfl)) | exact Or.inl rfl | apply And.intro)), rfl⟩
        · have hz := kindZ_none hn
          conv => whnf
          refine bsplit (fun h3 => ?_) (fun h3 => absurd (show (!decide ((1 : Int) ≤ kindZ s)) = false from h3) (by rw [hz]; decide))
          conv => whnf
          refine dsplit (fun h4 => ?_) (fun h4 => absurd hz h4)
          conv => whnf
          (refine call_auto hP (haw) ?_; conv => whnf); (refine ⟨⟨rfl, rfl, rfl, (by repeat' (first | exact trivial | exact rfl | (intro _ _; exact rfl) | (intro _ hj; exact absurd hj (Nat.not_lt_zero _)) | exact Nat.le_refl _ | exact Or.inl (Or.inl (And.intro (fun h => h) rfl)) | exact Or.inl rfl | apply And.intro)), rfl, rfl⟩, ?_⟩; conv => whnf)
          (refine fin_auto ?_; conv => whnf); exact ⟨rfl, rfl, rfl, rfl, (by repeat' (first | exact trivial | exact rfl | (intro _ _; exact rfl) | (intro _ hj; exact absurd hj (Nat.not_lt_zero _)) | exact Nat.le_refl _ | exact Or.inl (Or.inl (And.intro (fun h => h) rfl)) | exact Or.inl rfl | apply And.intro)), rfl⟩
    · conv => whnf
      (refine call_auto hP (hna) ?_; conv => whnf); (refine ⟨⟨rfl, rfl, rfl, (by repeat' (first | exact trivial | exact rfl | (intro _ _; exact rfl) | (intro _ hj; exact absurd hj (Nat.not_lt_zero _)) | exact Nat.le_refl _ | exact Or.inl (Or.inl (And.intro (fun h => h) rfl)) | exact Or.inl rfl | apply And.intro)), rfl, rfl⟩, ?_⟩; conv => whnf)
      (repeat' (first | (refine join_plain ?_; conv => whnf) | (refine dsplit (fun _ => ?_) (fun _ => ?_) <;> conv => whnf)))
      (repeat' (first | (refine And.intro (by (first | omega | assumption | (simp only [nadd_eq]; omega) | (simp [nadd_eq]; omega))) ?_; conv => whnf) | (refine arI64 (by omega) (by omega) ?_; conv => whnf) | (refine arU32 (by omega) (by omega) ?_; conv => whnf) | (refine arU8 (by omega) (by omega) ?_; conv => whnf)))
      (refine call_auto hP (hnm) ?_; conv => whnf); (refine ⟨⟨rfl, rfl, rfl, (by repeat' (first | exact trivial | exact rfl | (intro _ _; exact rfl) | (intro _ hj; exact absurd hj (Nat.not_lt_zero _)) | exact Nat.le_refl _ | exact Or.inl (Or.inl (And.intro (fun h => h) rfl)) | exact Or.inl rfl | apply And.intro)), rfl, rfl⟩, ?_⟩; conv => whnf)
      refine bsplit (fun h => absurd (show (!((wordS 4).toList == (wordS 4).toList)) = true from h) (by simp)) (fun _ => ?_)
      conv => whnf
      (refine call_auto hP (hfi) ?_; conv => whnf); (refine ⟨⟨rfl, rfl, rfl, (by repeat' (first | exact trivial | exact rfl | (intro _ _; exact rfl) | (intro _ hj; exact absurd hj (Nat.not_lt_zero _)) | exact Nat.le_refl _ | exact Or.inl (Or.inl (And.intro (fun h => h) rfl)) | exact Or.inl rfl | apply And.intro)), rfl, rfl⟩, ?_⟩; conv => whnf)
      (refine call_auto hP (hti) ?_; conv => whnf); (refine ⟨⟨rfl, rfl, rfl, (by repeat' (first | exact trivial | exact rfl | (intro _ _; exact rfl) | (intro _ hj; exact absurd hj (Nat.not_lt_zero _)) | exact Nat.le_refl _ | exact Or.inl (Or.inl (And.intro (fun h => h) rfl)) | exact Or.inl rfl | apply And.intro)), rfl, rfl⟩, ?_⟩; conv => whnf)
      (refine call_auto hP (hki) ?_; conv => whnf); (refine ⟨⟨rfl, rfl, rfl, (by repeat' (first | exact trivial | exact rfl | (intro _ _; exact rfl) | (intro _ hj; exact absurd hj (Nat.not_lt_zero _)) | exact Nat.le_refl _ | exact Or.inl (Or.inl (And.intro (fun h => h) rfl)) | exact Or.inl rfl | apply And.intro)), rfl, rfl⟩, ?_⟩; conv => whnf)
      refine loop_auto (α := Nat) (ds := []) (N := 1) (fun i => [(9, sInt .i64 (i : Int))]) [] (fun _ => [])
        (fun i => (1 ≤ i ∧ i ≤ 8) ∧ ∀ j, 1 ≤ j → j < i → eqS s j = false) (fun i => 8 - i) 1 ⟨by omega, fun j h1 h2 => by omega⟩ ?_ fun i hi => ?_
      · (conv => whnf); (refine imp_auto hA ?_; conv => whnf); exact ⟨rfl, rfl, rfl, (by repeat' (first | exact trivial | exact rfl | apply And.intro)), (by repeat' (first | exact trivial | exact rfl | (intro _ _; exact rfl) | (intro _ hj; exact absurd hj (Nat.not_lt_zero _)) | exact Nat.le_refl _ | exact Or.inl (Or.inl (And.intro (fun h => h) rfl)) | exact Or.inl rfl | apply And.intro)), rfl⟩
      · obtain ⟨hi, hn⟩ := hi
        rcases (show i = 1 ∨ i = 2 ∨ i = 3 ∨ i = 4 ∨ i = 5 ∨ i = 6 ∨ i = 7 ∨ i = 8 by omega) with rfl | rfl | rfl | rfl | rfl | rfl | rfl | rfl
        · conv => whnf
          (repeat' (first | (refine And.intro (by (first | omega | assumption | (simp only [nadd_eq]; omega) | (simp [nadd_eq]; omega))) ?_; conv => whnf) | (refine arI64 (by omega) (by omega) ?_; conv => whnf) | (refine arU32 (by omega) (by omega) ?_; conv => whnf) | (refine arU8 (by omega) (by omega) ?_; conv => whnf)))
          refine bsplit (fun h1 => ?_) (fun h1 => ?_)
          · have h2 : eqS s 1 = true := by rw [← comm]; exact h1
            have hz := kindZ_at (i := 1) (by omega) hn h2
            conv => whnf
            refine dsplit (fun h3 => ?_) (fun h3 => absurd (show (1 : Int) ≤ kindZ s by rw [hz]; decide) h3)
            conv => whnf
            refine dsplit (fun h4 => ?_) (fun h4 => absurd (show kindZ s = 1 by rw [hz]; rfl) h4)
            conv => whnf
            (refine call_auto hP (haw) ?_; conv => whnf); (refine ⟨⟨rfl, rfl, rfl, (by repeat' (first | exact trivial | exact rfl | (intro _ _; exact rfl) | (intro _ hj; exact absurd hj (Nat.not_lt_zero _)) | exact Nat.le_refl _ | exact Or.inl (Or.inl (And.intro (fun h => h) rfl)) | exact Or.inl rfl | apply And.intro)), rfl, rfl⟩, ?_⟩; conv => whnf)
            (refine fin_auto ?_; conv => whnf); exact ⟨rfl, rfl, rfl, rfl, (by repeat' (first | exact trivial | exact rfl | (intro _ _; exact rfl) | (intro _ hj; exact absurd hj (Nat.not_lt_zero _)) | exact Nat.le_refl _ | exact Or.inl (Or.inl (And.intro (fun h => h) rfl)) | exact Or.inl rfl | apply And.intro)), rfl⟩
          · have h2 : eqS s 1 = false := by rw [← comm]; exact h1
            conv => whnf
            (repeat' (first | (refine And.intro (by (first | omega | assumption | (simp only [nadd_eq]; omega) | (simp [nadd_eq]; omega))) ?_; conv => whnf) | (refine arI64 (by omega) (by omega) ?_; conv => whnf) | (refine arU32 (by omega) (by omega) ?_; conv => whnf) | (refine arU8 (by omega) (by omega) ?_; conv => whnf)))
            refine ⟨2, ⟨by omega, next hn h2⟩, by omega, ?_⟩
            (conv => whnf); (refine imp_auto hA ?_; conv => whnf); exact ⟨rfl, rfl, rfl, (by repeat' (first | exact trivial | exact rfl | apply And.intro)), (by repeat' (first | exact trivial | exact rfl | (intro _ _; exact rfl) | (intro _ hj; exact absurd hj (Nat.not_lt_zero _)) | exact Nat.le_refl _ | exact Or.inl (Or.inl (And.intro (fun h => h) rfl)) | exact Or.inl rfl | apply And.intro)), rfl⟩
        · conv => whnf
          (repeat' (first | (refine And.intro (by (first | omega | assumption | (simp only [nadd_eq]; omega) | (simp [nadd_eq]; omega))) ?_; conv => whnf) | (refine arI64 (by omega) (by omega) ?_; conv => whnf) | (refine arU32 (by omega) (by omega) ?_; conv => whnf) | (refine arU8 (by omega) (by omega) ?_; conv => whnf)))
          refine bsplit (fun h1 => ?_) (fun h1 => ?_)
          · have h2 : eqS s 2 = true := by rw [← comm]; exact h1
            have hz := kindZ_at (i := 2) (by omega) hn h2
            conv => whnf
            refine dsplit (fun h3 => ?_) (fun h3 => absurd (show (1 : Int) ≤ kindZ s by rw [hz]; decide) h3)
            conv => whnf
            refine dsplit (fun h4 => ?_) (fun h4 => absurd (show kindZ s = 2 by rw [hz]; rfl) h4)
            conv => whnf
            (refine call_auto hP (haw) ?_; conv => whnf); (refine ⟨⟨rfl, rfl, rfl, (by repeat' (first | exact trivial | exact rfl | (intro _ _; exact rfl) | (intro _ hj; exact absurd hj (Nat.not_lt_zero _)) | exact Nat.le_refl _ | exact Or.inl (Or.inl (And.intro (fun h => h) rfl)) | exact Or.inl rfl | apply And.intro)), rfl, rfl⟩, ?_⟩; conv => whnf)
            (refine fin_auto ?_; conv => whnf); exact ⟨rfl, rfl, rfl, rfl, (by repeat' (first | exact trivial | exact rfl | (intro _ _; exact rfl) | (intro _ hj; exact absurd hj (Nat.not_lt_zero _)) | exact Nat.le_refl _ | exact Or.inl (Or.inl (And.intro (fun h => h) rfl)) | exact Or.inl rfl | apply And.intro)), rfl⟩
          · have h2 : eqS s 2 = false := by rw [← comm]; exact h1
            conv => whnf
            (repeat' (first | (refine And.intro (by (first | omega | assumption | (simp only [nadd_eq]; omega) | (simp [nadd_eq]; omega))) ?_; conv => whnf) | (refine arI64 (by omega) (by omega) ?_; conv => whnf) | (refine arU32 (by omega) (by omega) ?_; conv => whnf) | (refine arU8 (by omega) (by omega) ?_; conv => whnf)))
            refine ⟨3, ⟨by omega, next hn h2⟩, by omega, ?_⟩
            (conv => whnf); (refine imp_auto hA ?_; conv => whnf); exact ⟨rfl, rfl, rfl, (by repeat' (first | exact trivial | exact rfl | apply And.intro)), (by repeat' (first | exact trivial | exact rfl | (intro _ _; exact rfl) | (intro _ hj; exact absurd hj (Nat.not_lt_zero _)) | exact Nat.le_refl _ | exact Or.inl (Or.inl (And.intro (fun h => h) rfl)) | exact Or.inl rfl | apply And.intro)), rfl⟩
        · conv => whnf
          (repeat' (first | (refine And.intro (by (first | omega | assumption | (simp only [nadd_eq]; omega) | (simp [nadd_eq]; omega))) ?_; conv => whnf) | (refine arI64 (by omega) (by omega) ?_; conv => whnf) | (refine arU32 (by omega) (by omega) ?_; conv => whnf) | (refine arU8 (by omega) (by omega) ?_; conv => whnf)))
          refine bsplit (fun h1 => ?_) (fun h1 => ?_)
          · have h2 : eqS s 3 = true := by rw [← comm]; exact h1
            have hz := kindZ_at (i := 3) (by omega) hn h2
            conv => whnf
            refine dsplit (fun h3 => ?_) (fun h3 => absurd (show (1 : Int) ≤ kindZ s by rw [hz]; decide) h3)
            conv => whnf
            refine dsplit (fun h4 => ?_) (fun h4 => absurd (show kindZ s = 3 by rw [hz]; rfl) h4)
            conv => whnf
            (refine call_auto hP (haw) ?_; conv => whnf); (refine ⟨⟨rfl, rfl, rfl, (by repeat' (first | exact trivial | exact rfl | (intro _ _; exact rfl) | (intro _ hj; exact absurd hj (Nat.not_lt_zero _)) | exact Nat.le_refl _ | exact Or.inl (Or.inl (And.intro (fun h => h) rfl)) | exact Or.inl rfl | apply And.intro)), rfl, rfl⟩, ?_⟩; conv => whnf)
            (refine fin_auto ?_; conv => whnf); exact ⟨rfl, rfl, rfl, rfl, (by repeat' (first | exact trivial | exact rfl | (intro _ _; exact rfl) | (intro _ hj; exact absurd hj (Nat.not_lt_zero _)) | exact Nat.le_refl _ | exact Or.inl (Or.inl (And.intro (fun h => h) rfl)) | exact Or.inl rfl | apply And.intro)), rfl⟩
          · have h2 : eqS s 3 = false := by rw [← comm]; exact h1
            conv => whnf
            (repeat' (first | (refine And.intro (by (first | omega | assumption | (simp only [nadd_eq]; omega) | (simp [nadd_eq]; omega))) ?_; conv => whnf) | (refine arI64 (by omega) (by omega) ?_; conv => whnf) | (refine arU32 (by omega) (by omega) ?_; conv => whnf) | (refine arU8 (by omega) (by omega) ?_; conv => whnf)))
            refine ⟨4, ⟨by omega, next hn h2⟩, by omega, ?_⟩
            (conv => whnf); (refine imp_auto hA ?_; conv => whnf); exact ⟨rfl, rfl, rfl, (by repeat' (first | exact trivial | exact rfl | apply And.intro)), (by repeat' (first | exact trivial | exact rfl | (intro _ _; exact rfl) | (intro _ hj; exact absurd hj (Nat.not_lt_zero _)) | exact Nat.le_refl _ | exact Or.inl (Or.inl (And.intro (fun h => h) rfl)) | exact Or.inl rfl | apply And.intro)), rfl⟩
        · conv => whnf
          (repeat' (first | (refine And.intro (by (first | omega | assumption | (simp only [nadd_eq]; omega) | (simp [nadd_eq]; omega))) ?_; conv => whnf) | (refine arI64 (by omega) (by omega) ?_; conv => whnf) | (refine arU32 (by omega) (by omega) ?_; conv => whnf) | (refine arU8 (by omega) (by omega) ?_; conv => whnf)))
          refine bsplit (fun h1 => ?_) (fun h1 => ?_)
          · have h2 : eqS s 4 = true := by rw [← comm]; exact h1
            have hz := kindZ_at (i := 4) (by omega) hn h2
            conv => whnf
            refine dsplit (fun h3 => ?_) (fun h3 => absurd (show (1 : Int) ≤ kindZ s by rw [hz]; decide) h3)
            conv => whnf
            refine dsplit (fun h4 => ?_) (fun h4 => absurd (show kindZ s = 4 by rw [hz]; rfl) h4)
            conv => whnf
            (refine call_auto hP (haw) ?_; conv => whnf); (refine ⟨⟨rfl, rfl, rfl, (by repeat' (first | exact trivial | exact rfl | (intro _ _; exact rfl) | (intro _ hj; exact absurd hj (Nat.not_lt_zero _)) | exact Nat.le_refl _ | exact Or.inl (Or.inl (And.intro (fun h => h) rfl)) | exact Or.inl rfl | apply And.intro)), rfl, rfl⟩, ?_⟩; conv => whnf)
            (refine fin_auto ?_; conv => whnf); exact ⟨rfl, rfl, rfl, rfl, (by repeat' (first | exact trivial | exact rfl | (intro _ _; exact rfl) | (intro _ hj; exact absurd hj (Nat.not_lt_zero _)) | exact Nat.le_refl _ | exact Or.inl (Or.inl (And.intro (fun h => h) rfl)) | exact Or.inl rfl | apply And.intro)), rfl⟩
          · have h2 : eqS s 4 = false := by rw [← comm]; exact h1
            conv => whnf
            (repeat' (first | (refine And.intro (by (first | omega | assumption | (simp only [nadd_eq]; omega) | (simp [nadd_eq]; omega))) ?_; conv => whnf) | (refine arI64 (by omega) (by omega) ?_; conv => whnf) | (refine arU32 (by omega) (by omega) ?_; conv => whnf) | (refine arU8 (by omega) (by omega) ?_; conv => whnf)))
            refine ⟨5, ⟨by omega, next hn h2⟩, by omega, ?_⟩
            (conv => whnf); (refine imp_auto hA ?_; conv => whnf); exact ⟨rfl, rfl, rfl, (by repeat' (first | exact trivial | exact rfl | apply And.intro)), (by repeat' (first | exact trivial | exact rfl | (intro _ _; exact rfl) | (intro _ hj; exact absurd hj (Nat.not_lt_zero _)) | exact Nat.le_refl _ | exact Or.inl (Or.inl (And.intro (fun h => h) rfl)) | exact Or.inl rfl | apply And.intro)), rfl⟩
        · conv => whnf
          (repeat' (first | (refine And.intro (by (first | omega | assumption | (simp only [nadd_eq]; omega) | (simp [nadd_eq]; omega))) ?_; conv => whnf) | (refine arI64 (by omega) (by omega) ?_; conv => whnf) | (refine arU32 (by omega) (by omega) ?_; conv => whnf) | (refine arU8 (by omega) (by omega) ?_; conv => whnf)))
          refine bsplit (fun h1 => ?_) (fun h1 => ?_)
          · have h2 : eqS s 5 = true := by rw [← comm]; exact h1
            have hz := kindZ_at (i := 5) (by omega) hn h2
            conv => whnf
            refine dsplit (fun h3 => ?_) (fun h3 => absurd (show (1 : Int) ≤ kindZ s by rw [hz]; decide) h3)
            conv => whnf
            refine dsplit (fun h4 => ?_) (fun h4 => absurd (show kindZ s = 5 by rw [hz]; rfl) h4)
            conv => whnf
            (refine call_auto hP (haw) ?_; conv => whnf); (refine ⟨⟨rfl, rfl, rfl, (by repeat' (first | exact trivial | exact rfl | (intro _ _; exact rfl) | (intro _ hj; exact absurd hj (Nat.not_lt_zero _)) | exact Nat.le_refl _ | exact Or.inl (Or.inl (And.intro (fun h => h) rfl)) | exact Or.inl rfl | apply And.intro)), rfl, rfl⟩, ?_⟩; conv => whnf)
            (refine fin_auto ?_; conv => whnf); exact ⟨rfl, rfl, rfl, rfl, (by repeat' (first | exact trivial | exact rfl | (intro _ _; exact rfl) | (intro _ hj; exact absurd hj (Nat.not_lt_zero _)) | exact Nat.le_refl _ | exact Or.inl (Or.inl (And.intro (fun h => h) rfl)) | exact Or.inl rfl | apply And.intro)), rfl⟩
          · have h2 : eqS s 5 = false := by rw [← comm]; exact h1
            conv => whnf
            (repeat' (first | (refine And.intro (by (first | omega | assumption | (simp only [nadd_eq]; omega) | (simp [nadd_eq]; omega))) ?_; conv => whnf) | (refine arI64 (by omega) (by omega) ?_; conv => whnf) | (refine arU32 (by omega) (by omega) ?_; conv => whnf) | (refine arU8 (by omega) (by omega) ?_; conv => whnf)))
            refine ⟨6, ⟨by omega, next hn h2⟩, by omega, ?_⟩
            (conv => whnf); (refine imp_auto hA ?_; conv => whnf); exact ⟨rfl, rfl, rfl, (by repeat' (first | exact trivial | exact rfl | apply And.intro)), (by repeat' (first | exact trivial | exact rfl | (intro _ _; exact rfl) | (intro _ hj; exact absurd hj (Nat.not_lt_zero _)) | exact Nat.le_refl _ | exact Or.inl (Or.inl (And.intro (fun h => h) rfl)) | exact Or.inl rfl | apply And.intro)), rfl⟩
        · conv => whnf
          (repeat' (first | (refine And.intro (by (first | omega | assumption | (simp only [nadd_eq]; omega) | (simp [nadd_eq]; omega))) ?_; conv => whnf) | (refine arI64 (by omega) (by omega) ?_; conv => whnf) | (refine arU32 (by omega) (by omega) ?_; conv => whnf) | (refine arU8 (by omega) (by omega) ?_; conv => whnf)))
          refine bsplit (fun h1 => ?_) (fun h1 => ?_)
          · have h2 : eqS s 6 = true := by rw [← comm]; exact h1
            have hz := kindZ_at (i := 6) (by omega) hn h2
            conv => whnf
            refine dsplit (fun h3 => ?_) (fun h3 => absurd (show (1 : Int) ≤ kindZ s by rw [hz]; decide) h3)
            conv => whnf
            refine dsplit (fun h4 => ?_) (fun h4 => absurd (show kindZ s = 6 by rw [hz]; rfl) h4)
            conv => whnf
            (refine call_auto hP (haw) ?_; conv => whnf); (refine ⟨⟨rfl, rfl, rfl, (by repeat' (first | exact trivial | exact rfl | (intro _ _; exact rfl) | (intro _ hj; exact absurd hj (Nat.not_lt_zero _)) | exact Nat.le_refl _ | exact Or.inl (Or.inl (And.intro (fun h => h) rfl)) | exact Or.inl rfl | apply And.intro)), rfl, rfl⟩, ?_⟩; conv => whnf)
            (refine fin_auto ?_; conv => whnf); exact ⟨rfl, rfl, rfl, rfl, (by repeat' (first | exact trivial | exact rfl | (intro _ _; exact rfl) | (intro _ hj; exact absurd hj (Nat.not_lt_zero _)) | exact Nat.le_refl _ | exact Or.inl (Or.inl (And.intro (fun h => h) rfl)) | exact Or.inl rfl | apply And.intro)), rfl⟩
          · have h2 : eqS s 6 = false := by rw [← comm]; exact h1
            conv => whnf
            (repeat' (first | (refine And.intro (by (first | omega | assumption | (simp only [nadd_eq]; omega) | (simp [nadd_eq]; omega))) ?_; conv => whnf) | (refine arI64 (by omega) (by omega) ?_; conv => whnf) | (refine arU32 (by omega) (by omega) ?_; conv => whnf) | (refine arU8 (by omega) (by omega) ?_; conv => whnf)))
            refine ⟨7, ⟨by omega, next hn h2⟩, by omega, ?_⟩
            (conv => whnf); (refine imp_auto hA ?_; conv => whnf); exact ⟨rfl, rfl, rfl, (by repeat' (first | exact trivial | exact rfl | apply And.intro)), (by repeat' (first | exact trivial | exact rfl | (intro _ _; exact rfl) | (intro _ hj; exact absurd hj (Nat.not_lt_zero _)) | exact Nat.le_refl _ | exact Or.inl (Or.inl (And.intro (fun h => h) rfl)) | exact Or.inl rfl | apply And.intro)), rfl⟩
        · conv => whnf
          (repeat' (first | (refine And.intro (by (first | omega | assumption | (simp only [nadd_eq]; omega) | (simp [nadd_eq]; omega))) ?_; conv => whnf) | (refine arI64 (by omega) (by omega) ?_; conv => whnf) | (refine arU32 (by omega) (by omega) ?_; conv => whnf) | (refine arU8 (by omega) (by omega) ?_; conv => whnf)))
          refine bsplit (fun h1 => ?_) (fun h1 => ?_)
          · have h2 : eqS s 7 = true := by rw [← comm]; exact h1
            have hz := kindZ_at (i := 7) (by omega) hn h2
            conv => whnf
            refine dsplit (fun h3 => ?_) (fun h3 => absurd (show (1 : Int) ≤ kindZ s by rw [hz]; decide) h3)
            conv => whnf
            refine dsplit (fun h4 => ?_) (fun h4 => absurd (show kindZ s = 7 by rw [hz]; rfl) h4)
            conv => whnf
            (refine call_auto hP (haw) ?_; conv => whnf); (refine ⟨⟨rfl, rfl, rfl, (by repeat' (first | exact trivial | exact rfl | (intro _ _; exact rfl) | (intro _ hj; exact absurd hj (Nat.not_lt_zero _)) | exact Nat.le_refl _ | exact Or.inl (Or.inl (And.intro (fun h => h) rfl)) | exact Or.inl rfl | apply And.intro)), rfl, rfl⟩, ?_⟩; conv => whnf)
            (refine fin_auto ?_; conv => whnf); exact ⟨rfl, rfl, rfl, rfl, (by repeat' (first | exact trivial | exact rfl | (intro _ _; exact rfl) | (intro _ hj; exact absurd hj (Nat.not_lt_zero _)) | exact Nat.le_refl _ | exact Or.inl (Or.inl (And.intro (fun h => h) rfl)) | exact Or.inl rfl | apply And.intro)), rfl⟩
          · have h2 : eqS s 7 = false := by rw [← comm]; exact h1
            conv => whnf
            (repeat' (first | (refine And.intro (by (first | omega | assumption | (simp only [nadd_eq]; omega) | (simp [nadd_eq]; omega))) ?_; conv => whnf) | (refine arI64 (by omega) (by omega) ?_; conv => whnf) | (refine arU32 (by omega) (by omega) ?_; conv => whnf) | (refine arU8 (by omega) (by omega) ?_; conv => whnf)))
            refine ⟨8, ⟨by omega, next hn h2⟩, by omega, ?_⟩
            (conv => whnf); (refine imp_auto hA ?_; conv => whnf); exact ⟨rfl, rfl, rfl, (by repeat' (first | exact trivial | exact rfl | apply And.intro)), (by repeat' (first | exact trivial | exact rfl | (intro _ _; exact rfl) | (intro _ hj; exact absurd hj (Nat.not_lt_zero _)) | exact Nat.le_refl _ | exact Or.inl (Or.inl (And.intro (fun h => h) rfl)) | exact Or.inl rfl | apply And.intro)), rfl⟩
        · have hz := kindZ_none hn
          conv => whnf
          refine bsplit (fun h3 => ?_) (fun h3 => absurd (show (!decide ((1 : Int) ≤ kindZ s)) = false from h3) (by rw [hz]; decide))
          conv => whnf
          refine dsplit (fun h4 => ?_) (fun h4 => absurd hz h4)
          conv => whnf
          (refine call_auto hP (haw) ?_; conv => whnf); (refine ⟨⟨rfl, rfl, rfl, (by repeat' (first | exact trivial | exact rfl | (intro _ _; exact rfl) | (intro _ hj; exact absurd hj (Nat.not_lt_zero _)) | exact Nat.le_refl _ | exact Or.inl (Or.inl (And.intro (fun h => h) rfl)) | exact Or.inl rfl | apply And.intro)), rfl, rfl⟩, ?_⟩; conv => whnf)
          (refine fin_auto ?_; conv => whnf); exact ⟨rfl, rfl, rfl, rfl, (by repeat' (first | exact trivial | exact rfl | (intro _ _; exact rfl) | (intro _ hj; exact absurd hj (Nat.not_lt_zero _)) | exact Nat.le_refl _ | exact Or.inl (Or.inl (And.intro (fun h => h) rfl)) | exact Or.inl rfl | apply And.intro)), rfl⟩
    · conv => whnf
      (refine call_auto hP (hna) ?_; conv => whnf); (refine ⟨⟨rfl, rfl, rfl, (by repeat' (first | exact trivial | exact rfl | (intro _ _; exact rfl) | (intro _ hj; exact absurd hj (Nat.not_lt_zero _)) | exact Nat.le_refl _ | exact Or.inl (Or.inl (And.intro (fun h => h) rfl)) | exact Or.inl rfl | apply And.intro)), rfl, rfl⟩, ?_⟩; conv => whnf)
      (repeat' (first | (refine join_plain ?_; conv => whnf) | (refine dsplit (fun _ => ?_) (fun _ => ?_) <;> conv => whnf)))
      (repeat' (first | (refine And.intro (by (first | omega | assumption | (simp only [nadd_eq]; omega) | (simp [nadd_eq]; omega))) ?_; conv => whnf) | (refine arI64 (by omega) (by omega) ?_; conv => whnf) | (refine arU32 (by omega) (by omega) ?_; conv => whnf) | (refine arU8 (by omega) (by omega) ?_; conv => whnf)))
      (refine call_auto hP (hnm) ?_; conv => whnf); (refine ⟨⟨rfl, rfl, rfl, (by repeat' (first | exact trivial | exact rfl | (intro _ _; exact rfl) | (intro _ hj; exact absurd hj (Nat.not_lt_zero _)) | exact Nat.le_refl _ | exact Or.inl (Or.inl (And.intro (fun h => h) rfl)) | exact Or.inl rfl | apply And.intro)), rfl, rfl⟩, ?_⟩; conv => whnf)
      refine bsplit (fun h => absurd (show (!((wordS 5).toList == (wordS 5).toList)) = true from h) (by simp)) (fun _ => ?_)
      conv => whnf
      (refine call_auto hP (hfi) ?_; conv => whnf); (refine ⟨⟨rfl, rfl, rfl, (by repeat' (first | exact trivial | exact rfl | (intro _ _; exact rfl) | (intro _ hj; exact absurd hj (Nat.not_lt_zero _)) | exact Nat.le_refl _ | exact Or.inl (Or.inl (And.intro (fun h => h) rfl)) | exact Or.inl rfl | apply And.intro)), rfl, rfl⟩, ?_⟩; conv => whnf)
      (refine call_auto hP (hti) ?_; conv => whnf); (refine ⟨⟨rfl, rfl, rfl, (by repeat' (first | exact trivial | exact rfl | (intro _ _; exact rfl) | (intro _ hj; exact absurd hj (Nat.not_lt_zero _)) | exact Nat.le_refl _ | exact Or.inl (Or.inl (And.intro (fun h => h) rfl)) | exact Or.inl rfl | apply And.intro)), rfl, rfl⟩, ?_⟩; conv => whnf)
      (refine call_auto hP (hki) ?_; conv => whnf); (refine ⟨⟨rfl, rfl, rfl, (by repeat' (first | exact trivial | exact rfl | (intro _ _; exact rfl) | (intro _ hj; exact absurd hj (Nat.not_lt_zero _)) | exact Nat.le_refl _ | exact Or.inl (Or.inl (And.intro (fun h => h) rfl)) | exact Or.inl rfl | apply And.intro)), rfl, rfl⟩, ?_⟩; conv => whnf)
      refine loop_auto (α := Nat) (ds := []) (N := 1) (fun i => [(9, sInt .i64 (i : Int))]) [] (fun _ => [])
        (fun i => (1 ≤ i ∧ i ≤ 8) ∧ ∀ j, 1 ≤ j → j < i → eqS s j = false) (fun i => 8 - i) 1 ⟨by omega, fun j h1 h2 => by omega⟩ ?_ fun i hi => ?_
      · (conv => whnf); (refine imp_auto hA ?_; conv => whnf); exact ⟨rfl, rfl, rfl, (by repeat' (first | exact trivial | exact rfl | apply And.intro)), (by repeat' (first | exact trivial | exact rfl | (intro _ _; exact rfl) | (intro _ hj; exact absurd hj (Nat.not_lt_zero _)) | exact Nat.le_refl _ | exact Or.inl (Or.inl (And.intro (fun h => h) rfl)) | exact Or.inl rfl | apply And.intro)), rfl⟩
      · obtain ⟨hi, hn⟩ := hi
        rcases (show i = 1 ∨ i = 2 ∨ i = 3 ∨ i = 4 ∨ i = 5 ∨ i = 6 ∨ i = 7 ∨ i = 8 by omega) with rfl | rfl | rfl | rfl | rfl | rfl | rfl | rfl
        · conv => whnf
          (repeat' (first | (refine And.intro (by (first | omega | assumption | (simp only [nadd_eq]; omega) | (simp [nadd_eq]; omega))) ?_; conv => whnf) | (refine arI64 (by omega) (by omega) ?_; conv => whnf) | (refine arU32 (by omega) (by omega) ?_; conv => whnf) | (refine arU8 (by omega) (by omega) ?_; conv => whnf)))
          refine bsplit (fun h1 => ?_) (fun h1 => ?_)
          · have h2 : eqS s 1 = true := by rw [← comm]; exact h1
            have hz := kindZ_at (i := 1) (by omega) hn h2
            conv => whnf
            refine dsplit (fun h3 => ?_) (fun h3 => absurd (show (1 : Int) ≤ kindZ s by rw [hz]; decide) h3)
            conv => whnf
            refine dsplit (fun h4 => ?_) (fun h4 => absurd (show kindZ s = 1 by rw [hz]; rfl) h4)
            conv => whnf
            (refine call_auto hP (haw) ?_; conv => whnf); (refine ⟨⟨rfl, rfl, rfl, (by repeat' (first | exact trivial | exact rfl | (intro _ _; exact rfl) | (intro _ hj; exact absurd hj (Nat.not_lt_zero _)) | exact Nat.le_refl _ | exact Or.inl (Or.inl (And.intro (fun h => h) rfl)) | exact Or.inl rfl | apply And.intro)), rfl, rfl⟩, ?_⟩; conv => whnf)
            (refine fin_auto ?_; conv => whnf); exact ⟨rfl, rfl, rfl, rfl, (by repeat' (first | exact trivial | exact rfl | (intro _ _; exact rfl) | (intro _ hj; exact absurd hj (Nat.not_lt_zero _)) | exact Nat.le_refl _ | exact Or.inl (Or.inl (And.intro (fun h => h) rfl)) | exact Or.inl rfl | apply And.intro)), rfl⟩
          · have h2 : eqS s 1 = false := by rw [← comm]; exact h1
            conv => whnf
            (repeat' (first | (refine And.intro (by (first | omega | assumption | (simp only [nadd_eq]; omega) | (simp [nadd_eq]; omega))) ?_; conv => whnf) | (refine arI64 (by omega) (by omega) ?_; conv => whnf) | (refine arU32 (by omega) (by omega) ?_; conv => whnf) | (refine arU8 (by omega) (by omega) ?_; conv => whnf)))
            refine ⟨2, ⟨by omega, next hn h2⟩, by omega, ?_⟩
            (conv => whnf); (refine imp_auto hA ?_; conv => whnf); exact ⟨rfl, rfl, rfl, (by repeat' (first | exact trivial | exact rfl | apply And.intro)), (by repeat' (first | exact trivial | exact rfl | (intro _ _; exact rfl) | (intro _ hj; exact absurd hj (Nat.not_lt_zero _)) | exact Nat.le_refl _ | exact Or.inl (Or.inl (And.intro (fun h => h) rfl)) | exact Or.inl rfl | apply And.intro)), rfl⟩
        · conv => whnf
          (repeat' (first | (refine And.intro (by (first | omega | assumption | (simp only [nadd_eq]; omega) | (simp [nadd_eq]; omega))) ?_; conv => whnf) | (refine arI64 (by omega) (by omega) ?_; conv => whnf) | (refine arU32 (by omega) (by omega) ?_; conv => whnf) | (refine arU8 (by omega) (by omega) ?_; conv => whnf)))
          refine bsplit (fun h1 => ?_) (fun h1 => ?_)
          · have h2 : eqS s 2 = true := by rw [← comm]; exact h1
            have hz := kindZ_at (i := 2) (by omega) hn h2
            conv => whnf
            refine dsplit (fun h3 => ?_) (fun h3 => absurd (show (1 : Int) ≤ kindZ s by rw [hz]; decide) h3)
            conv => whnf
            refine dsplit (fun h4 => ?_) (fun h4 => absurd (show kindZ s = 2 by rw [hz]; rfl) h4)
            conv => whnf
            (refine call_auto hP (haw) ?_; conv => whnf); (refine ⟨⟨rfl, rfl, rfl, (by repeat' (first | exact trivial | exact rfl | (intro _ _; exact rfl) | (intro _ hj; exact absurd hj (Nat.not_lt_zero _)) | exact Nat.le_refl _ | exact Or.inl (Or.inl (And.intro (fun h => h) rfl)) | exact Or.inl rfl | apply And.intro)), rfl, rfl⟩, ?_⟩; conv => whnf)
            (refine fin_auto ?_; conv => whnf); exact ⟨rfl, rfl, rfl, rfl, (by repeat' (first | exact trivial | exact rfl | (intro _ _; exact rfl) | (intro _ hj; exact absurd hj (Nat.not_lt_zero _)) | exact Nat.le_refl _ | exact Or.inl (Or.inl (And.intro (fun h => h) rfl)) | exact Or.inl rfl | apply And.intro)), rfl⟩
          · have h2 : eqS s 2 = false := by rw [← comm]; exact h1
            conv => whnf
            (repeat' (first | (refine And.intro (by (first | omega | assumption | (simp only [nadd_eq]; omega) | (simp [nadd_eq]; omega))) ?_; conv => whnf) | (refine arI64 (by omega) (by omega) ?_; conv => whnf) | (refine arU32 (by omega) (by omega) ?_; conv => whnf) | (refine arU8 (by omega) (by omega) ?_; conv => whnf)))
            refine ⟨3, ⟨by omega, next hn h2⟩, by omega, ?_⟩
            (conv => whnf); (refine imp_auto hA ?_; conv => whnf); exact ⟨rfl, rfl, rfl, (by repeat' (first | exact trivial | exact rfl | apply And.intro)), (by repeat' (first | exact trivial | exact rfl | (intro _ _; exact rfl) | (intro _ hj; exact absurd hj (Nat.not_lt_zero _)) | exact Nat.le_refl _ | exact Or.inl (Or.inl (And.intro (fun h => h) rfl)) | exact Or.inl rfl | apply And.intro)), rfl⟩
        · conv => whnf
          (repeat' (first | (refine And.intro (by (first | omega | assumption | (simp only [nadd_eq]; omega) | (simp [nadd_eq]; omega))) ?_; conv => whnf) | (refine arI64 (by omega) (by omega) ?_; conv => whnf) | (refine arU32 (by omega) (by omega) ?_; conv => whnf) | (refine arU8 (by omega) (by omega) ?_; conv => whnf)))
          refine bsplit (fun h1 => ?_) (fun h1 => ?_)
          · have h2 : eqS s 3 = true := by rw [← comm]; exact h1
            have hz := kindZ_at (i := 3) (by omega) hn h2
            conv => whnf
            refine dsplit (fun h3 => ?_) (fun h3 => absurd (show (1 : Int) ≤ kindZ s by rw [hz]; decide) h3)
            conv => whnf
            refine dsplit (fun h4 => ?_) (fun h4 => absurd (show kindZ s = 3 by rw [hz]; rfl) h4)
            conv => whnf
            (refine call_auto hP (haw) ?_; conv => whnf); (refine ⟨⟨rfl, rfl, rfl, (by repeat' (first | exact trivial | exact rfl | (intro _ _; exact rfl) | (intro _ hj; exact absurd hj (Nat.not_lt_zero _)) | exact Nat.le_refl _ | exact Or.inl (Or.inl (And.intro (fun h => h) rfl)) | exact Or.inl rfl | apply And.intro)), rfl, rfl⟩, ?_⟩; conv => whnf)
            (refine fin_auto ?_; conv => whnf); exact ⟨rfl, rfl, rfl, rfl, (by repeat' (first | exact trivial | exact rfl | (intro _ _; exact rfl) | (intro _ hj; exact absurd hj (Nat.not_lt_zero _)) | exact Nat.le_refl _ | exact Or.inl (Or.inl (And.intro (fun h => h) rfl)) | exact Or.inl rfl | apply And.intro)), rfl⟩
          · have h2 : eqS s 3 = false := by rw [← comm]; exact h1
            conv => whnf
            (repeat' (first | (refine And.intro (by (first | omega | assumption | (simp only [nadd_eq]; omega) | (simp [nadd_eq]; omega))) ?_; conv => whnf) | (refine arI64 (by omega) (by omega) ?_; conv => whnf) | (refine arU32 (by omega) (by omega) ?_; conv => whnf) | (refine arU8 (by omega) (by omega) ?_; conv => whnf)))
            refine ⟨4, ⟨by omega, next hn h2⟩, by omega, ?_⟩
            (conv => whnf); (refine imp_auto hA ?_; conv => whnf); exact ⟨rfl, rfl, rfl, (by repeat' (first | exact trivial | exact rfl | apply And.intro)), (by repeat' (first | exact trivial | exact rfl | (intro _ _; exact rfl) | (intro _ hj; exact absurd hj (Nat.not_lt_zero _)) | exact Nat.le_refl _ | exact Or.inl (Or.inl (And.intro (fun h => h) rfl)) | exact Or.inl rfl | apply And.intro)), rfl⟩
        · conv => whnf
          (repeat' (first | (refine And.intro (by (first | omega | assumption | (simp only [nadd_eq]; omega) | (simp [nadd_eq]; omega))) ?_; conv => whnf) | (refine arI64 (by omega) (by omega) ?_; conv => whnf) | (refine arU32 (by omega) (by omega) ?_; conv => whnf) | (refine arU8 (by omega) (by omega) ?_; conv => whnf)))
          refine bsplit (fun h1 => ?_) (fun h1 => ?_)
          · have h2 : eqS s 4 = true := by rw [← comm]; exact h1
            have hz := kindZ_at (i := 4) (by omega) hn h2
            conv => whnf
            refine dsplit (fun h3 => ?_) (fun h3 => absurd (show (1 : Int) ≤ kindZ s by rw [hz]; decide) h3)
            conv => whnf
            refine dsplit (fun h4 => ?_) (fun h4 => absurd (show kindZ s = 4 by rw [hz]; rfl) h4)
            conv => whnf
            (refine call_auto hP (haw) ?_; conv => whnf); (refine ⟨⟨rfl, rfl, rfl, (by repeat' (first | exact trivial | exact rfl | (intro _ _; exact rfl) | (intro _ hj; exact absurd hj (Nat.not_lt_zero _)) | exact Nat.le_refl _ | exact Or.inl (Or.inl (And.intro (fun h => h) rfl)) | exact Or.inl rfl | apply And.intro)), rfl, rfl⟩, ?_⟩; conv => whnf)
            (refine fin_auto ?_; conv => whnf); exact ⟨rfl, rfl, rfl, rfl, (by repeat' (first | exact trivial | exact rfl | (intro _ _; exact rfl) | (intro _ hj; exact absurd hj (Nat.not_lt_zero _)) | exact Nat.le_refl _ | exact Or.inl (Or.inl (And.intro (fun h => h) rfl)) | exact Or.inl rfl | apply And.intro)), rfl⟩
          · have h2 : eqS s 4 = false := by rw [← comm]; exact h1
            conv => whnf
            (repeat' (first | (refine And.intro (by (first | omega | assumption | (simp only [nadd_eq]; omega) | (simp [nadd_eq]; omega))) ?_; conv => whnf) | (refine arI64 (by omega) (by omega) ?_; conv => whnf) | (refine arU32 (by omega) (by omega) ?_; conv => whnf) | (refine arU8 (by omega) (by omega) ?_; conv => whnf)))
            refine ⟨5, ⟨by omega, next hn h2⟩, by omega, ?_⟩
            (conv => whnf); (refine imp_auto hA ?_; conv => whnf); exact ⟨rfl, rfl, rfl, (by repeat' (first | exact trivial | exact rfl | apply And.intro)), (by repeat' (first | exact trivial | exact rfl | (intro _ _; exact rfl) | (intro _ hj; exact absurd hj (Nat.not_lt_zero _)) | exact Nat.le_refl _ | exact Or.inl (Or.inl (And.intro (fun h => h) rfl)) | exact Or.inl rfl | apply And.intro)), rfl⟩
        · conv => whnf
          (repeat' (first | (refine And.intro (by (first | omega | assumption | (simp only [nadd_eq]; omega) | (simp [nadd_eq]; omega))) ?_; conv => whnf) | (refine arI64 (by omega) (by omega) ?_; conv => whnf) | (refine arU32 (by omega) (by omega) ?_; conv => whnf) | (refine arU8 (by omega) (by omega) ?_; conv => whnf)))
          refine bsplit (fun h1 => ?_) (fun h1 => ?_)
          · have h2 : eqS s 5 = true := by rw [← comm]; exact h1
            have hz := kindZ_at (i := 5) (by omega) hn h2
            conv => whnf
            refine dsplit (fun h3 => ?_) (fun h3 => absurd (show (1 : Int) ≤ kindZ s by rw [hz]; decide) h3)
            conv => whnf
            refine dsplit (fun h4 => ?_) (fun h4 => absurd (show kindZ s = 5 by rw [hz]; rfl) h4)
            conv => whnf
            (refine call_auto hP (haw) ?_; conv => whnf); (refine ⟨⟨rfl, rfl, rfl, (by repeat' (first | exact trivial | exact rfl | (intro _ _; exact rfl) | (intro _ hj; exact absurd hj (Nat.not_lt_zero _)) | exact Nat.le_refl _ | exact Or.inl (Or.inl (And.intro (fun h => h) rfl)) | exact Or.inl rfl | apply And.intro)), rfl, rfl⟩, ?_⟩; conv => whnf)
            (refine fin_auto ?_; conv => whnf); exact ⟨rfl, rfl, rfl, rfl, (by repeat' (first | exact trivial | exact rfl | (intro _ _; exact rfl) | (intro _ hj; exact absurd hj (Nat.not_lt_zero _)) | exact Nat.le_refl _ | exact Or.inl (Or.inl (And.intro (fun h => h) rfl)) | exact Or.inl rfl | apply And.intro)), rfl⟩
          · have h2 : eqS s 5 = false := by rw [← comm]; exact h1
            conv => whnf
            (repeat' (first | (refine And.intro (by (first | omega | assumption | (simp only [nadd_eq]; omega) | (simp [nadd_eq]; omega))) ?_; conv => whnf) | (refine arI64 (by omega) (by omega) ?_; conv => whnf) | (refine arU32 (by omega) (by omega) ?_; conv => whnf) | (refine arU8 (by omega) (by omega) ?_; conv => whnf)))
            refine ⟨6, ⟨by omega, next hn h2⟩, by omega, ?_⟩
            (conv => whnf); (refine imp_auto hA ?_; conv => whnf); exact ⟨rfl, rfl, rfl, (by repeat' (first | exact trivial | exact rfl | apply And.intro)), (by repeat' (first | exact trivial | exact rfl | (intro _ _; exact rfl) | (intro _ hj; exact absurd hj (Nat.not_lt_zero _)) | exact Nat.le_refl _ | exact Or.inl (Or.inl (And.intro (fun h => h) rfl)) | exact Or.inl rfl | apply And.intro)), rfl⟩
        · conv => whnf
          (repeat' (first | (refine And.intro (by (first | omega | assumption | (simp only [nadd_eq]; omega) | (simp [nadd_eq]; omega))) ?_; conv => whnf) | (refine arI64 (by omega) (by omega) ?_; conv => whnf) | (refine arU32 (by omega) (by omega) ?_; conv => whnf) | (refine arU8 (by omega) (by omega) ?_; conv => whnf)))
          refine bsplit (fun h1 => ?_) (fun h1 => ?_)
          · have h2 : eqS s 6 = true := by rw [← comm]; exact h1
            have hz := kindZ_at (i := 6) (by omega) hn h2
            conv => whnf
            refine dsplit (fun h3 => ?_) (fun h3 => absurd (show (1 : Int) ≤ kindZ s by rw [hz]; decide) h3)
            conv => whnf
            refine dsplit (fun h4 => ?_) (fun h4 => absurd (show kindZ s = 6 by rw [hz]; rfl) h4)
            conv => whnf
            (refine call_auto hP (haw) ?_; conv => whnf); (refine ⟨⟨rfl, rfl, rfl, (by repeat' (first | exact trivial | exact rfl | (intro _ _; exact rfl) | (intro _ hj; exact absurd hj (Nat.not_lt_zero _)) | exact Nat.le_refl _ | exact Or.inl (Or.inl (And.intro (fun h => h) rfl)) | exact Or.inl rfl | apply And.intro)), rfl, rfl⟩, ?_⟩; conv => whnf)
            (refine fin_auto ?_; conv => whnf); exact ⟨rfl, rfl, rfl, rfl, (by repeat' (first | exact trivial | exact rfl | (intro _ _; exact rfl) | (intro _ hj; exact absurd hj (Nat.not_lt_zero _)) | exact Nat.le_refl _ | exact Or.inl (Or.inl (And.intro (fun h => h) rfl)) | exact Or.inl rfl | apply And.intro)), rfl⟩
          · have h2 : eqS s 6 = false := by rw [← comm]; exact h1
            conv => whnf
            (repeat' (first | (refine And.intro (by (first | omega | assumption | (simp only [nadd_eq]; omega) | (simp [nadd_eq]; omega))) ?_; conv => whnf) | (refine arI64 (by omega) (by omega) ?_; conv => whnf) | (refine arU32 (by omega) (by omega) ?_; conv => whnf) | (refine arU8 (by omega) (by omega) ?_; conv => whnf)))
            refine ⟨7, ⟨by omega, next hn h2⟩, by omega, ?_⟩
            (conv => whnf); (refine imp_auto hA ?_; conv => whnf); exact ⟨rfl, rfl, rfl, (by repeat' (first | exact trivial | exact rfl | apply And.intro)), (by repeat' (first | exact trivial | exact rfl | (intro _ _; exact rfl) | (intro _ hj; exact absurd hj (Nat.not_lt_zero _)) | exact Nat.le_refl _ | exact Or.inl (Or.inl (And.intro (fun h => h) rfl)) | exact Or.inl rfl | apply And.intro)), rfl⟩
        · conv => whnf
          (repeat' (first | (refine And.intro (by (first | omega | assumption | (simp only [nadd_eq]; omega) | (simp [nadd_eq]; omega))) ?_; conv => whnf) | (refine arI64 (by omega) (by omega) ?_; conv => whnf) | (refine arU32 (by omega) (by omega) ?_; conv => whnf) | (refine arU8 (by omega) (by omega) ?_; conv => whnf)))
          refine bsplit (fun h1 => ?_) (fun h1 => ?_)
          · have h2 : eqS s 7 = true := by rw [← comm]; exact h1
            have hz := kindZ_at (i := 7) (by omega) hn h2
            conv => whnf
            refine dsplit (fun h3 => ?_) (fun h3 => absurd (show (1 : Int) ≤ kindZ s by rw [hz]; decide) h3)
            conv => whnf
            refine dsplit (fun h4 => ?_) (fun h4 => absurd (show kindZ s = 7 by rw [hz]; rfl) h4)
            conv => whnf
            (refine call_auto hP (haw) ?_; conv => whnf); (refine ⟨⟨rfl, rfl, rfl, (by repeat' (first | exact trivial | exact rfl | (intro _ _; exact rfl) | (intro _ hj; exact absurd hj (Nat.not_lt_zero _)) | exact Nat.le_refl _ | exact Or.inl (Or.inl (And.intro (fun h => h) rfl)) | exact Or.inl rfl | apply And.intro)), rfl, rfl⟩, ?_⟩; conv => whnf)
            (refine fin_auto ?_; conv => whnf); exact ⟨rfl, rfl, rfl, rfl, (by repeat' (first | exact trivial | exact rfl | (intro _ _; exact rfl) | (intro _ hj; exact absurd hj (Nat.not_lt_zero _)) | exact Nat.le_refl _ | exact Or.inl (Or.inl (And.intro (fun h => h) rfl)) | exact Or.inl rfl | apply And.intro)), rfl⟩
          · have h2 : eqS s 7 = false := by rw [← comm]; exact h1
            conv => whnf
            (repeat' (first | (refine And.intro (by (first | omega | assumption | (simp only [nadd_eq]; omega) | (simp [nadd_eq]; omega))) ?_; conv => whnf) | (refine arI64 (by omega) (by omega) ?_; conv => whnf) | (refine arU32 (by omega) (by omega) ?_; conv => whnf) | (refine arU8 (by omega) (by omega) ?_; conv => whnf)))
            refine ⟨8, ⟨by omega, next hn h2⟩, by omega, ?_⟩
            (conv => whnf); (refine imp_auto hA ?_; conv => whnf); exact ⟨rfl, rfl, rfl, (by repeat' (first | exact trivial | exact rfl | apply And.intro)), (by repeat' (first | exact trivial | exact rfl | (intro _ _; exact rfl) | (intro _ hj; exact absurd hj (Nat.not_lt_zero _)) | exact Nat.le_refl _ | exact Or.inl (Or.inl (And.intro (fun h => h) rfl)) | exact Or.inl rfl | apply And.intro)), rfl⟩
        · have hz := kindZ_none hn
          conv => whnf
          refine bsplit (fun h3 => ?_) (fun h3 => absurd (show (!decide ((1 : Int) ≤ kindZ s)) = false from h3) (by rw [hz]; decide))
          conv => whnf
          refine dsplit (fun h4 => ?_) (fun h4 => absurd hz h4)
          conv => whnf
          (refine call_auto hP (haw) ?_; conv => whnf); (refine ⟨⟨rfl, rfl, rfl, (by repeat' (first | exact trivial | exact rfl | (intro _ _; exact rfl) | (intro _ hj; exact absurd hj (Nat.not_lt_zero _)) | exact Nat.le_refl _ | exact Or.inl (Or.inl (And.intro (fun h => h) rfl)) | exact Or.inl rfl | apply And.intro)), rfl, rfl⟩, ?_⟩; conv => whnf)
          (refine fin_auto ?_; conv => whnf); exact ⟨rfl, rfl, rfl, rfl, (by repeat' (first | exact trivial | exact rfl | (intro _ _; exact rfl) | (intro _ hj; exact absurd hj (Nat.not_lt_zero _)) | exact Nat.le_refl _ | exact Or.inl (Or.inl (And.intro (fun h => h) rfl)) | exact Or.inl rfl | apply And.intro)), rfl⟩
    · conv => whnf
      (refine call_auto hP (hna) ?_; conv => whnf); (refine ⟨⟨rfl, rfl, rfl, (by repeat' (first | exact trivial | exact rfl | (intro _ _; exact rfl) | (intro _ hj; exact absurd hj (Nat.not_lt_zero _)) | exact Nat.le_refl _ | exact Or.inl (Or.inl (And.intro (fun h => h) rfl)) | exact Or.inl rfl | apply And.intro)), rfl, rfl⟩, ?_⟩; conv => whnf)
      (repeat' (first | (refine join_plain ?_; conv => whnf) | (refine dsplit (fun _ => ?_) (fun _ => ?_) <;> conv => whnf)))
      (repeat' (first | (refine And.intro (by (first | omega | assumption | (simp only [nadd_eq]; omega) | (simp [nadd_eq]; omega))) ?_; conv => whnf) | (refine arI64 (by omega) (by omega) ?_; conv => whnf) | (refine arU32 (by omega) (by omega) ?_; conv => whnf) | (refine arU8 (by omega) (by omega) ?_; conv => whnf)))
      (refine call_auto hP (hnm) ?_; conv => whnf); (refine ⟨⟨rfl, rfl, rfl, (by repeat' (first | exact trivial | exact rfl | (intro _ _; exact rfl) | (intro _ hj; exact absurd hj (Nat.not_lt_zero _)) | exact Nat.le_refl _ | exact Or.inl (Or.inl (And.intro (fun h => h) rfl)) | exact Or.inl rfl | apply And.intro)), rfl, rfl⟩, ?_⟩; conv => whnf)
      refine bsplit (fun h => absurd (show (!((wordS 6).toList == (wordS 6).toList)) = true from h) (by simp)) (fun _ => ?_)
      conv => whnf
      (refine call_auto hP (hfi) ?_; conv => whnf); (refine ⟨⟨rfl, rfl, rfl, (by repeat' (first | exact trivial | exact rfl | (intro _ _; exact rfl) | (intro _ hj; exact absurd hj (Nat.not_lt_zero _)) | exact Nat.le_refl _ | exact Or.inl (Or.inl (And.intro (fun h => h) rfl)) | exact Or.inl rfl | apply And.intro)), rfl, rfl⟩, ?_⟩; conv => whnf)
      (refine call_auto hP (hti) ?_; conv => whnf); (refine ⟨⟨rfl, rfl, rfl, (by repeat' (first | exact trivial | exact rfl | (intro _ _; exact rfl) | (intro _ hj; exact absurd hj (Nat.not_lt_zero _)) | exact Nat.le_refl _ | exact Or.inl (Or.inl (And.intro (fun h => h) rfl)) | exact Or.inl rfl | apply And.intro)), rfl, rfl⟩, ?_⟩; conv => whnf)
      (refine call_auto hP (hki) ?_; conv => whnf); (refine ⟨⟨rfl, rfl, rfl, (by repeat' (first | exact trivial | exact rfl | (intro _ _; exact rfl) | (intro _ hj; exact absurd hj (Nat.not_lt_zero _)) | exact Nat.le_refl _ | exact Or.inl (Or.inl (And.intro (fun h => h) rfl)) | exact Or.inl rfl | apply And.intro)), rfl, rfl⟩, ?_⟩; conv => whnf)
      refine loop_auto (α := Nat) (ds := []) (N := 1) (fun i => [(9, sInt .i64 (i : Int))]) [] (fun _ => [])
        (fun i => (1 ≤ i ∧ i ≤ 8) ∧ ∀ j, 1 ≤ j → j < i → eqS s j = false) (fun i => 8 - i) 1 ⟨by omega, fun j h1 h2 => by omega⟩ ?_ fun i hi => ?_
      · (conv => whnf); (refine imp_auto hA ?_; conv => whnf); exact ⟨rfl, rfl, rfl, (by repeat' (first | exact trivial | exact rfl | apply And.intro)), (by repeat' (first | exact trivial | exact rfl | (intro _ _; exact rfl) | (intro _ hj; exact absurd hj (Nat.not_lt_zero _)) | exact Nat.le_refl _ | exact Or.inl (Or.inl (And.intro (fun h => h) rfl)) | exact Or.inl rfl | apply And.intro)), rfl⟩
      · obtain ⟨hi, hn⟩ := hi
        rcases (show i = 1 ∨ i = 2 ∨ i = 3 ∨ i = 4 ∨ i = 5 ∨ i = 6 ∨ i = 7 ∨ i = 8 by omega) with rfl | rfl | rfl | rfl | rfl | rfl | rfl | rfl
        · conv => whnf
          (repeat' (first | (refine And.intro (by (first | omega | assumption | (simp only [nadd_eq]; omega) | (simp [nadd_eq]; omega))) ?_; conv => whnf) | (refine arI64 (by omega) (by omega) ?_; conv => whnf) | (refine arU32 (by omega) (by omega) ?_; conv => whnf) | (refine arU8 (by omega) (by omega) ?_; conv => whnf)))
          refine bsplit (fun h1 => ?_) (fun h1 => ?_)
          · have h2 : eqS s 1 = true := by rw [← comm]; exact h1
            have hz := kindZ_at (i := 1) (by omega) hn h2
            conv => whnf
            refine dsplit (fun h3 => ?_) (fun h3 => absurd (show (1 : Int) ≤ kindZ s by rw [hz]; decide) h3)
            conv => whnf
            refine dsplit (fun h4 => ?_) (fun h4 => absurd (show kindZ s = 1 by rw [hz]; rfl) h4)
            conv => whnf
            (refine call_auto hP (haw) ?_; conv => whnf); (refine ⟨⟨rfl, rfl, rfl, (by repeat' (first | exact trivial | exact rfl | (intro _ _; exact rfl) | (intro _ hj; exact absurd hj (Nat.not_lt_zero _)) | exact Nat.le_refl _ | exact Or.inl (Or.inl (And.intro (fun h => h) rfl)) | exact Or.inl rfl | apply And.intro)), rfl, rfl⟩, ?_⟩; conv => whnf)
            (refine fin_auto ?_; conv => whnf); exact ⟨rfl, rfl, rfl, rfl, (by repeat' (first | exact trivial | exact rfl | (intro _ _; exact rfl) | (intro _ hj; exact absurd hj (Nat.not_lt_zero _)) | exact Nat.le_refl _ | exact Or.inl (Or.inl (And.intro (fun h => h) rfl)) | exact Or.inl rfl | apply And.intro)), rfl⟩
          · have h2 : eqS s 1 = false := by rw [← comm]; exact h1
            conv => whnf
            (repeat' (first | (refine And.intro (by (first | omega | assumption | (simp only [nadd_eq]; omega) | (simp [nadd_eq]; omega))) ?_; conv => whnf) | (refine arI64 (by omega) (by omega) ?_; conv => whnf) | (refine arU32 (by omega) (by omega) ?_; conv => whnf) | (refine arU8 (by omega) (by omega) ?_; conv => whnf)))
            refine ⟨2, ⟨by omega, next hn h2⟩, by omega, ?_⟩
            (conv => whnf); (refine imp_auto hA ?_; conv => whnf); exact ⟨rfl, rfl, rfl, (by repeat' (first | exact trivial | exact rfl | apply And.intro)), (by repeat' (first | exact trivial | exact rfl | (intro _ _; exact rfl) | (intro _ hj; exact absurd hj (Nat.not_lt_zero _)) | exact Nat.le_refl _ | exact Or.inl (Or.inl (And.intro (fun h => h) rfl)) | exact Or.inl rfl | apply And.intro)), rfl⟩
        · conv => whnf
          (repeat' (first | (refine And.intro (by (first | omega | assumption | (simp only [nadd_eq]; omega) | (simp [nadd_eq]; omega))) ?_; conv => whnf) | (refine arI64 (by omega) (by omega) ?_; conv => whnf) | (refine arU32 (by omega) (by omega) ?_; conv => whnf) | (refine arU8 (by omega) (by omega) ?_; conv => whnf)))
          refine bsplit (fun h1 => ?_) (fun h1 => ?_)
          · have h2 : eqS s 2 = true := by rw [← comm]; exact h1
            have hz := kindZ_at (i := 2) (by omega) hn h2
            conv => whnf
            refine dsplit (fun h3 => ?_) (fun h3 => absurd (show (1 : Int) ≤ kindZ s by rw [hz]; decide) h3)
            conv => whnf
            refine dsplit (fun h4 => ?_) (fun h4 => absurd (show kindZ s = 2 by rw [hz]; rfl) h4)
            conv => whnf
            (refine call_auto hP (haw) ?_; conv => whnf); (refine ⟨⟨rfl, rfl, rfl, (by repeat' (first | exact trivial | exact rfl | (intro _ _; exact rfl) | (intro _ hj; exact absurd hj (Nat.not_lt_zero _)) | exact Nat.le_refl _ | exact Or.inl (Or.inl (And.intro (fun h => h) rfl)) | exact Or.inl rfl | apply And.intro)), rfl, rfl⟩, ?_⟩; conv => whnf)
            (refine fin_auto ?_; conv => whnf); exact ⟨rfl, rfl, rfl, rfl, (by repeat' (first | exact trivial | exact rfl | (intro _ _; exact rfl) | (intro _ hj; exact absurd hj (Nat.not_lt_zero _)) | exact Nat.le_refl _ | exact Or.inl (Or.inl (And.intro (fun h => h) rfl)) | exact Or.inl rfl | apply And.intro)), rfl⟩
          · have h2 : eqS s 2 = false := by rw [← comm]; exact h1
            conv => whnf
            (repeat' (first | (refine And.intro (by (first | omega | assumption | (simp only [nadd_eq]; omega) | (simp [nadd_eq]; omega))) ?_; conv => whnf) | (refine arI64 (by omega) (by omega) ?_; conv => whnf) | (refine arU32 (by omega) (by omega) ?_; conv => whnf) | (refine arU8 (by omega) (by omega) ?_; conv => whnf)))
            refine ⟨3, ⟨by omega, next hn h2⟩, by omega, ?_⟩
            (conv => whnf); (refine imp_auto hA ?_; conv => whnf); exact ⟨rfl, rfl, rfl, (by repeat' (first | exact trivial | exact rfl | apply And.intro)), (by repeat' (first | exact trivial | exact rfl | (intro _ _; exact rfl) | (intro _ hj; exact absurd hj (Nat.not_lt_zero _)) | exact Nat.le_refl _ | exact Or.inl (Or.inl (And.intro (fun h => h) rfl)) | exact Or.inl rfl | apply And.intro)), rfl⟩
        · conv => whnf
          (repeat' (first | (refine And.intro (by (first | omega | assumption | (simp only [nadd_eq]; omega) | (simp [nadd_eq]; omega))) ?_; conv => whnf) | (refine arI64 (by omega) (by omega) ?_; conv => whnf) | (refine arU32 (by omega) (by omega) ?_; conv => whnf) | (refine arU8 (by omega) (by omega) ?_; conv => whnf)))
          refine bsplit (fun h1 => ?_) (fun h1 => ?_)
          · have h2 : eqS s 3 = true := by rw [← comm]; exact h1
            have hz := kindZ_at (i := 3) (by omega) hn h2
            conv => whnf
            refine dsplit (fun h3 => ?_) (fun h3 => absurd (show (1 : Int) ≤ kindZ s by rw [hz]; decide) h3)
            conv => whnf
            refine dsplit (fun h4 => ?_) (fun h4 => absurd (show kindZ s = 3 by rw [hz]; rfl) h4)
            conv => whnf
            (refine call_auto hP (haw) ?_; conv => whnf); (refine ⟨⟨rfl, rfl, rfl, (by repeat' (first | exact trivial | exact rfl | (intro _ _; exact rfl) | (intro _ hj; exact absurd hj (Nat.not_lt_zero _)) | exact Nat.le_refl _ | exact Or.inl (Or.inl (And.intro (fun h => h) rfl)) | exact Or.inl rfl | apply And.intro)), rfl, rfl⟩, ?_⟩; conv => whnf)
            (refine fin_auto ?_; conv => whnf); exact ⟨rfl, rfl, rfl, rfl, (by repeat' (first | exact trivial | exact rfl | (intro _ _; exact rfl) | (intro _ hj; exact absurd hj (Nat.not_lt_zero _)) | exact Nat.le_refl _ | exact Or.inl (Or.inl (And.intro (fun h => h) rfl)) | exact Or.inl rfl | apply And.intro)), rfl⟩
          · have h2 : eqS s 3 = false := by rw [← comm]; exact h1
            conv => whnf
            (repeat' (first | (refine And.intro (by (first | omega | assumption | (simp only [nadd_eq]; omega) | (simp [nadd_eq]; omega))) ?_; conv => whnf) | (refine arI64 (by omega) (by omega) ?_; conv => whnf) | (refine arU32 (by omega) (by omega) ?_; conv => whnf) | (refine arU8 (by omega) (by omega) ?_; conv => whnf)))
            refine ⟨4, ⟨by omega, next hn h2⟩, by omega, ?_⟩
            (conv => whnf); (refine imp_auto hA ?_; conv => whnf); exact ⟨rfl, rfl, rfl, (by repeat' (first | exact trivial | exact rfl | apply And.intro)), (by repeat' (first | exact trivial | exact rfl | (intro _ _; exact rfl) | (intro _ hj; exact absurd hj (Nat.not_lt_zero _)) | exact Nat.le_refl _ | exact Or.inl (Or.inl (And.intro (fun h => h) rfl)) | exact Or.inl rfl | apply And.intro)), rfl⟩
        · conv => whnf
          (repeat' (first | (refine And.intro (by (first | omega | assumption | (simp only [nadd_eq]; omega) | (simp [nadd_eq]; omega))) ?_; conv => whnf) | (refine arI64 (by omega) (by omega) ?_; conv => whnf) | (refine arU32 (by omega) (by omega) ?_; conv => whnf) | (refine arU8 (by omega) (by omega) ?_; conv => whnf)))
          refine bsplit (fun h1 => ?_) (fun h1 => ?_)
          · have h2 : eqS s 4 = true := by rw [← comm]; exact h1
            have hz := kindZ_at (i := 4) (by omega) hn h2
            conv => whnf
            refine dsplit (fun h3 => ?_) (fun h3 => absurd (show (1 : Int) ≤ kindZ s by rw [hz]; decide) h3)
            conv => whnf
            refine dsplit (fun h4 => ?_) (fun h4 => absurd (show kindZ s = 4 by rw [hz]; rfl) h4)
            conv => whnf
            (refine call_auto hP (haw) ?_; conv => whnf); (refine ⟨⟨rfl, rfl, rfl, (by repeat' (first | exact trivial | exact rfl | (intro _ _; exact rfl) | (intro _ hj; exact absurd hj (Nat.not_lt_zero _)) | exact Nat.le_refl _ | exact Or.inl (Or.inl (And.intro (fun h => h) rfl)) | exact Or.inl rfl | apply And.intro)), rfl, rfl⟩, ?_⟩; conv => whnf)
            (refine fin_auto ?_; conv => whnf); exact ⟨rfl, rfl, rfl, rfl, (by repeat' (first | exact trivial | exact rfl | (intro _ _; exact rfl) | (intro _ hj; exact absurd hj (Nat.not_lt_zero _)) | exact Nat.le_refl _ | exact Or.inl (Or.inl (And.intro (fun h => h) rfl)) | exact Or.inl rfl | apply And.intro)), rfl⟩
          · have h2 : eqS s 4 = false := by rw [← comm]; exact h1
            conv => whnf
            (repeat' (first | (refine And.intro (by (first | omega | assumption | (simp only [nadd_eq]; omega) | (simp [nadd_eq]; omega))) ?_; conv => whnf) | (refine arI64 (by omega) (by omega) ?_; conv => whnf) | (refine arU32 (by omega) (by omega) ?_; conv => whnf) | (refine arU8 (by omega) (by omega) ?_; conv => whnf)))
            refine ⟨5, ⟨by omega, next hn h2⟩, by omega, ?_⟩
            (conv => whnf); (refine imp_auto hA ?_; conv => whnf); exact ⟨rfl, rfl, rfl, (by repeat' (first | exact trivial | exact rfl | apply And.intro)), (by repeat' (first | exact trivial | exact rfl | (intro _ _; exact rfl) | (intro _ hj; exact absurd hj (Nat.not_lt_zero _)) | exact Nat.le_refl _ | exact Or.inl (Or.inl (And.intro (fun h => h) rfl)) | exact Or.inl rfl | apply And.intro)), rfl⟩
        · conv => whnf
          (repeat' (first | (refine And.intro (by (first | omega | assumption | (simp only [nadd_eq]; omega) | (simp [nadd_eq]; omega))) ?_; conv => whnf) | (refine arI64 (by omega) (by omega) ?_; conv => whnf) | (refine arU32 (by omega) (by omega) ?_; conv => whnf) | (refine arU8 (by omega) (by omega) ?_; conv => whnf)))
          refine bsplit (fun h1 => ?_) (fun h1 => ?_)
          · have h2 : eqS s 5 = true := by rw [← comm]; exact h1
            have hz := kindZ_at (i := 5) (by omega) hn h2
            conv => whnf
            refine dsplit (fun h3 => ?_) (fun h3 => absurd (show (1 : Int) ≤ kindZ s by rw [hz]; decide) h3)
            conv => whnf
            refine dsplit (fun h4 => ?_) (fun h4 => absurd (show kindZ s = 5 by rw [hz]; rfl) h4)
            conv => whnf
            (refine call_auto hP (haw) ?_; conv => whnf); (refine ⟨⟨rfl, rfl, rfl, (by repeat' (first | exact trivial | exact rfl | (intro _ _; exact rfl) | (intro _ hj; exact absurd hj (Nat.not_lt_zero _)) | exact Nat.le_refl _ | exact Or.inl (Or.inl (And.intro (fun h => h) rfl)) | exact Or.inl rfl | apply And.intro)), rfl, rfl⟩, ?_⟩; conv => whnf)
            (refine fin_auto ?_; conv => whnf); exact ⟨rfl, rfl, rfl, rfl, (by repeat' (first | exact trivial | exact rfl | (intro _ _; exact rfl) | (intro _ hj; exact absurd hj (Nat.not_lt_zero _)) | exact Nat.le_refl _ | exact Or.inl (Or.inl (And.intro (fun h => h) rfl)) | exact Or.inl rfl | apply And.intro)), rfl⟩
          · have h2 : eqS s 5 = false := by rw [← comm]; exact h1
            conv => whnf
            (repeat' (first | (refine And.intro (by (first | omega | assumption | (simp only [nadd_eq]; omega) | (simp [nadd_eq]; omega))) ?_; conv => whnf) | (refine arI64 (by omega) (by omega) ?_; conv => whnf) | (refine arU32 (by omega) (by omega) ?_; conv => whnf) | (refine arU8 (by omega) (by omega) ?_; conv => whnf)))
            refine ⟨6, ⟨by omega, next hn h2⟩, by omega, ?_⟩
            (conv => whnf); (refine imp_auto hA ?_; conv => whnf); exact ⟨rfl, rfl, rfl, (by repeat' (first | exact trivial | exact rfl | apply And.intro)), (by repeat' (first | exact trivial | exact rfl | (intro _ _; exact rfl) | (intro _ hj; exact absurd hj (Nat.not_lt_zero _)) | exact Nat.le_refl _ | exact Or.inl (Or.inl (And.intro (fun h => h) rfl)) | exact Or.inl rfl | apply And.intro)), rfl⟩
        · conv => whnf
          (repeat' (first | (refine And.intro (by (first | omega | assumption | (simp only [nadd_eq]; omega) | (simp [nadd_eq]; omega))) ?_; conv => whnf) | (refine arI64 (by omega) (by omega) ?_; conv => whnf) | (refine arU32 (by omega) (by omega) ?_; conv => whnf) | (refine arU8 (by omega) (by omega) ?_; conv => whnf)))
          refine bsplit (fun h1 => ?_) (fun h1 => ?_)
          · have h2 : eqS s 6 = true := by rw [← comm]; exact h1
            have hz := kindZ_at (i := 6) (by omega) hn h2
            conv => whnf
            refine dsplit (fun h3 => ?_) (fun h3 => absurd (show (1 : Int) ≤ kindZ s by rw [hz]; decide) h3)
            conv => whnf
            refine dsplit (fun h4 => ?_) (fun h4 => absurd (show kindZ s = 6 by rw [hz]; rfl) h4)
            conv => whnf
            (refine call_auto hP (haw) ?_; conv => whnf); (refine ⟨⟨rfl, rfl, rfl, (by repeat' (first | exact trivial | exact rfl | (intro _ _; exact rfl) | (intro _ hj; exact absurd hj (Nat.not_lt_zero _)) | exact Nat.le_refl _ | exact Or.inl (Or.inl (And.intro (fun h => h) rfl)) | exact Or.inl rfl | apply And.intro)), rfl, rfl⟩, ?_⟩; conv => whnf)
            (refine fin_auto ?_; conv => whnf); exact ⟨rfl, rfl, rfl, rfl, (by repeat' (first | exact trivial | exact rfl | (intro _ _; exact rfl) | (intro _ hj; exact absurd hj (Nat.not_lt_zero _)) | exact Nat.le_refl _ | exact Or.inl (Or.inl (And.intro (fun h => h) rfl)) | exact Or.inl rfl | apply And.intro)), rfl⟩
          · have h2 : eqS s 6 = false := by rw [← comm]; exact h1
            conv => whnf
            (repeat' (first | (refine And.intro (by (first | omega | assumption | (simp only [nadd_eq]; omega) | (simp [nadd_eq]; omega))) ?_; conv => whnf) | (refine arI64 (by omega) (by omega) ?_; conv => whnf) | (refine arU32 (by omega) (by omega) ?_; conv => whnf) | (refine arU8 (by omega) (by omega) ?_; conv => whnf)))
            refine ⟨7, ⟨by omega, next hn h2⟩, by omega, ?_⟩
            (conv => whnf); (refine imp_auto hA ?_; conv => whnf); exact ⟨rfl, rfl, rfl, (by repeat' (first | exact trivial | exact rfl | apply And.intro)), (by repeat' (first | exact trivial | exact rfl | (intro _ _; exact rfl) | (intro _ hj; exact absurd hj (Nat.not_lt_zero _)) | exact Nat.le_refl _ | exact Or.inl (Or.inl (And.intro (fun h => h) rfl)) | exact Or.inl rfl | apply And.intro)), rfl⟩
        · conv => whnf
          (repeat' (first | (refine And.intro (by (first | omega | assumption | (simp only [nadd_eq]; omega) | (simp [nadd_eq]; omega))) ?_; conv => whnf) | (refine arI64 (by omega) (by omega) ?_; conv => whnf) | (refine arU32 (by omega) (by omega) ?_; conv => whnf) | (refine arU8 (by omega) (by omega) ?_; conv => whnf)))
          refine bsplit (fun h1 => ?_) (fun h1 => ?_)
          · have h2 : eqS s 7 = true := by rw [← comm]; exact h1
            have hz := kindZ_at (i := 7) (by omega) hn h2
            conv => whnf
            refine dsplit (fun h3 => ?_) (fun h3 => absurd (show (1 : Int) ≤ kindZ s by rw [hz]; decide) h3)
            conv => whnf
            refine dsplit (fun h4 => ?_) (fun h4 => absurd (show kindZ s = 7 by rw [hz]; rfl) h4)
            conv => whnf
            (refine call_auto hP (haw) ?_; conv => whnf); (refine ⟨⟨rfl, rfl, rfl, (by repeat' (first | exact trivial | exact rfl | (intro _ _; exact rfl) | (intro _ hj; exact absurd hj (Nat.not_lt_zero _)) | exact Nat.le_refl _ | exact Or.inl (Or.inl (And.intro (fun h => h) rfl)) | exact Or.inl rfl | apply And.intro)), rfl, rfl⟩, ?_⟩; conv => whnf)
            (refine fin_auto ?_; conv => whnf); exact ⟨rfl, rfl, rfl, rfl, (by repeat' (first | exact trivial | exact rfl | (intro _ _; exact rfl) | (intro _ hj; exact absurd hj (Nat.not_lt_zero _)) | exact Nat.le_refl _ | exact Or.inl (Or.inl (And.intro (fun h => h) rfl)) | exact Or.inl rfl | apply And.intro)), rfl⟩
          · have h2 : eqS s 7 = false := by rw [← comm]; exact h1
            conv => whnf
            (repeat' (first | (refine And.intro (by (first | omega | assumption | (simp only [nadd_eq]; omega) | (simp [nadd_eq]; omega))) ?_; conv => whnf) | (refine arI64 (by omega) (by omega) ?_; conv => whnf) | (refine arU32 (by omega) (by omega) ?_; conv => whnf) | (refine arU8 (by omega) (by omega) ?_; conv => whnf)))
            refine ⟨8, ⟨by omega, next hn h2⟩, by omega, ?_⟩
            (conv => whnf); (refine imp_auto hA ?_; conv => whnf); exact ⟨rfl, rfl, rfl, (by repeat' (first | exact trivial | exact rfl | apply And.intro)), (by repeat' (first | exact trivial | exact rfl | (intro _ _; exact rfl) | (intro _ hj; exact absurd hj (Nat.not_lt_zero _)) | exact Nat.le_refl _ | exact Or.inl (Or.inl (And.intro (fun h => h) rfl)) | exact Or.inl rfl | apply And.intro)), rfl⟩
        · have hz := kindZ_none hn
          conv => whnf
          refine bsplit (fun h3 => ?_) (fun h3 => absurd (show (!decide ((1 : Int) ≤ kindZ s)) = false from h3) (by rw [hz]; decide))
          conv => whnf
          refine dsplit (fun h4 => ?_) (fun h4 => absurd hz h4)
          conv => whnf
          (refine call_auto hP (haw) ?_; conv => whnf); (refine ⟨⟨rfl, rfl, rfl, (by repeat' (first | exact trivial | exact rfl | (intro _ _; exact rfl) | (intro _ hj; exact absurd hj (Nat.not_lt_zero _)) | exact Nat.le_refl _ | exact Or.inl (Or.inl (And.intro (fun h => h) rfl)) | exact Or.inl rfl | apply And.intro)), rfl, rfl⟩, ?_⟩; conv => whnf)
          (refine fin_auto ?_; conv => whnf); exact ⟨rfl, rfl, rfl, rfl, (by repeat' (first | exact trivial | exact rfl | (intro _ _; exact rfl) | (intro _ hj; exact absurd hj (Nat.not_lt_zero _)) | exact Nat.le_refl _ | exact Or.inl (Or.inl (And.intro (fun h => h) rfl)) | exact Or.inl rfl | apply And.intro)), rfl⟩
    · conv => whnf
      (refine call_auto hP (hna) ?_; conv => whnf); (refine ⟨⟨rfl, rfl, rfl, (by repeat' (first | exact trivial | exact rfl | (intro _ _; exact rfl) | (intro _ hj; exact absurd hj (Nat.not_lt_zero _)) | exact Nat.le_refl _ | exact Or.inl (Or.inl (And.intro (fun h => h) rfl)) | exact Or.inl rfl | apply And.intro)), rfl, rfl⟩, ?_⟩; conv => whnf)
      (repeat' (first | (refine join_plain ?_; conv => whnf) | (refine dsplit (fun _ => ?_) (fun _ => ?_) <;> conv => whnf)))
      (repeat' (first | (refine And.intro (by (first | omega | assumption | (simp only [nadd_eq]; omega) | (simp [nadd_eq]; omega))) ?_; conv => whnf) | (refine arI64 (by omega) (by omega) ?_; conv => whnf) | (refine arU32 (by omega) (by omega) ?_; conv => whnf) | (refine arU8 (by omega) (by omega) ?_; conv => whnf)))
      (refine call_auto hP (hnm) ?_; conv => whnf); (refine ⟨⟨rfl, rfl, rfl, (by repeat' (first | exact trivial | exact rfl | (intro _ _; exact rfl) | (intro _ hj; exact absurd hj (Nat.not_lt_zero _)) | exact Nat.le_refl _ | exact Or.inl (Or.inl (And.intro (fun h => h) rfl)) | exact Or.inl rfl | apply And.intro)), rfl, rfl⟩, ?_⟩; conv => whnf)
      refine bsplit (fun h => absurd (show (!((wordS 7).toList == (wordS 7).toList)) = true from h) (by simp)) (fun _ => ?_)
      conv => whnf
      (refine call_auto hP (hfi) ?_; conv => whnf); (refine ⟨⟨rfl, rfl, rfl, (by repeat' (first | exact trivial | exact rfl | (intro _ _; exact rfl) | (intro _ hj; exact absurd hj (Nat.not_lt_zero _)) | exact Nat.le_refl _ | exact Or.inl (Or.inl (And.intro (fun h => h) rfl)) | exact Or.inl rfl | apply And.intro)), rfl, rfl⟩, ?_⟩; conv => whnf)
      (refine call_auto hP (hti) ?_; conv => whnf); (refine ⟨⟨rfl, rfl, rfl, (by repeat' (first | exact trivial | exact rfl | (intro _ _; exact rfl) | (intro _ hj; exact absurd hj (Nat.not_lt_zero _)) | exact Nat.le_refl _ | exact Or.inl (Or.inl (And.intro (fun h => h) rfl)) | exact Or.inl rfl | apply And.intro)), rfl, rfl⟩, ?_⟩; conv => whnf)
      (refine call_auto hP (hki) ?_; conv => whnf); (refine ⟨⟨rfl, rfl, rfl, (by repeat' (first | exact trivial | exact rfl | (intro _ _; exact rfl) | (intro _ hj; exact absurd hj (Nat.not_lt_zero _)) | exact Nat.le_refl _ | exact Or.inl (Or.inl (And.intro (fun h => h) rfl)) | exact Or.inl rfl | apply And.intro)), rfl, rfl⟩, ?_⟩; conv => whnf)
      refine loop_auto (α := Nat) (ds := []) (N := 1) (fun i => [(9, sInt .i64 (i : Int))]) [] (fun _ => [])
        (fun i => (1 ≤ i ∧ i ≤ 8) ∧ ∀ j, 1 ≤ j → j < i → eqS s j = false) (fun i => 8 - i) 1 ⟨by omega, fun j h1 h2 => by omega⟩ ?_ fun i hi => ?_
      · (conv => whnf); (refine imp_auto hA ?_; conv => whnf); exact ⟨rfl, rfl, rfl, (by repeat' (first | exact trivial | exact rfl | apply And.intro)), (by repeat' (first | exact trivial | exact rfl | (intro _ _; exact rfl) | (intro _ hj; exact absurd hj (Nat.not_lt_zero _)) | exact Nat.le_refl _ | exact Or.inl (Or.inl (And.intro (fun h => h) rfl)) | exact Or.inl rfl | apply And.intro)), rfl⟩
      · obtain ⟨hi, hn⟩ := hi
        rcases (show i = 1 ∨ i = 2 ∨ i = 3 ∨ i = 4 ∨ i = 5 ∨ i = 6 ∨ i = 7 ∨ i = 8 by omega) with rfl | rfl | rfl | rfl | rfl | rfl | rfl | rfl
        · conv => whnf
          (repeat' (first | (refine And.intro (by (first | omega | assumption | (simp only [nadd_eq]; omega) | (simp [nadd_eq]; omega))) ?_; conv => whnf) | (refine arI64 (by omega) (by omega) ?_; conv => whnf) | (refine arU32 (by omega) (by omega) ?_; conv => whnf) | (refine arU8 (by omega) (by omega) ?_; conv => whnf)))
          refine bsplit (fun h1 => ?_) (fun h1 => ?_)
          · have h2 : eqS s 1 = true := by rw [← comm]; exact h1
            have hz := kindZ_at (i := 1) (by omega) hn h2
            conv => whnf
            refine dsplit (fun h3 => ?_) (fun h3 => absurd (show (1 : Int) ≤ kindZ s by rw [hz]; decide) h3)
            conv => whnf
            refine dsplit (fun h4 => ?_) (fun h4 => absurd (show kindZ s = 1 by rw [hz]; rfl) h4)
            conv => whnf
            (refine call_auto hP (haw) ?_; conv => whnf); (refine ⟨⟨rfl, rfl, rfl, (by repeat' (first | exact trivial | exact rfl | (intro _ _; exact rfl) | (intro _ hj; exact absurd hj (Nat.not_lt_zero _)) | exact Nat.le_refl _ | exact Or.inl (Or.inl (And.intro (fun h => h) rfl)) | exact Or.inl rfl | apply And.intro)), rfl, rfl⟩, ?_⟩; conv => whnf)
            (refine fin_auto ?_; conv => whnf); exact ⟨rfl, rfl, rfl, rfl, (by repeat' (first | exact trivial | exact rfl | (intro _ _; exact rfl) | (intro _ hj; exact absurd hj (Nat.not_lt_zero _)) | exact Nat.le_refl _ | exact Or.inl (Or.inl (And.intro (fun h => h) rfl)) | exact Or.inl rfl | apply And.intro)), rfl⟩
          · have h2 : eqS s 1 = false := by rw [← comm]; exact h1
            conv => whnf
            (repeat' (first | (refine And.intro (by (first | omega | assumption | (simp only [nadd_eq]; omega) | (simp [nadd_eq]; omega))) ?_; conv => whnf) | (refine arI64 (by omega) (by omega) ?_; conv => whnf) | (refine arU32 (by omega) (by omega) ?_; conv => whnf) | (refine arU8 (by omega) (by omega) ?_; conv => whnf)))
            refine ⟨2, ⟨by omega, next hn h2⟩, by omega, ?_⟩
            (conv => whnf); (refine imp_auto hA ?_; conv => whnf); exact ⟨rfl, rfl, rfl, (by repeat' (first | exact trivial | exact rfl | apply And.intro)), (by repeat' (first | exact trivial | exact rfl | (intro _ _; exact rfl) | (intro _ hj; exact absurd hj (Nat.not_lt_zero _)) | exact Nat.le_refl _ | exact Or.inl (Or.inl (And.intro (fun h => h) rfl)) | exact Or.inl rfl | apply And.intro)), rfl⟩
        · conv => whnf
          (repeat' (first | (refine And.intro (by (first | omega | assumption | (simp only [nadd_eq]; omega) | (simp [nadd_eq]; omega))) ?_; conv => whnf) | (refine arI64 (by omega) (by omega) ?_; conv => whnf) | (refine arU32 (by omega) (by omega) ?_; conv => whnf) | (refine arU8 (by omega) (by omega) ?_; conv => whnf)))
          refine bsplit (fun h1 => ?_) (fun h1 => ?_)
          · have h2 : eqS s 2 = true := by rw [← comm]; exact h1
            have hz := kindZ_at (i := 2) (by omega) hn h2
            conv => whnf
            refine dsplit (fun h3 => ?_) (fun h3 => absurd (show (1 : Int) ≤ kindZ s by rw [hz]; decide) h3)
            conv => whnf
            refine dsplit (fun h4 => ?_) (fun h4 => absurd (show kindZ s = 2 by rw [hz]; rfl) h4)
            conv => whnf
            (refine call_auto hP (haw) ?_; conv => whnf); (refine ⟨⟨rfl, rfl, rfl, (by repeat' (first | exact trivial | exact rfl | (intro _ _; exact rfl) | (intro _ hj; exact absurd hj (Nat.not_lt_zero _)) | exact Nat.le_refl _ | exact Or.inl (Or.inl (And.intro (fun h => h) rfl)) | exact Or.inl rfl | apply And.intro)), rfl, rfl⟩, ?_⟩; conv => whnf)
            (refine fin_auto ?_; conv => whnf); exact ⟨rfl, rfl, rfl, rfl, (by repeat' (first | exact trivial | exact rfl | (intro _ _; exact rfl) | (intro _ hj; exact absurd hj (Nat.not_lt_zero _)) | exact Nat.le_refl _ | exact Or.inl (Or.inl (And.intro (fun h => h) rfl)) | exact Or.inl rfl | apply And.intro)), rfl⟩
          · have h2 : eqS s 2 = false := by rw [← comm]; exact h1
            conv => whnf
            (repeat' (first | (refine And.intro (by (first | omega | assumption | (simp only [nadd_eq]; omega) | (simp [nadd_eq]; omega))) ?_; conv => whnf) | (refine arI64 (by omega) (by omega) ?_; conv => whnf) | (refine arU32 (by omega) (by omega) ?_; conv => whnf) | (refine arU8 (by omega) (by omega) ?_; conv => whnf)))
            refine ⟨3, ⟨by omega, next hn h2⟩, by omega, ?_⟩
            (conv => whnf); (refine imp_auto hA ?_; conv => whnf); exact ⟨rfl, rfl, rfl, (by repeat' (first | exact trivial | exact rfl | apply And.intro)), (by repeat' (first | exact trivial | exact rfl | (intro _ _; exact rfl) | (intro _ hj; exact absurd hj (Nat.not_lt_zero _)) | exact Nat.le_refl _ | exact Or.inl (Or.inl (And.intro (fun h => h) rfl)) | exact Or.inl rfl | apply And.intro)), rfl⟩
        · conv => whnf
          (repeat' (first | (refine And.intro (by (first | omega | assumption | (simp only [nadd_eq]; omega) | (simp [nadd_eq]; omega))) ?_; conv => whnf) | (refine arI64 (by omega) (by omega) ?_; conv => whnf) | (refine arU32 (by omega) (by omega) ?_; conv => whnf) | (refine arU8 (by omega) (by omega) ?_; conv => whnf)))
          refine bsplit (fun h1 => ?_) (fun h1 => ?_)
          · have h2 : eqS s 3 = true := by rw [← comm]; exact h1
            have hz := kindZ_at (i := 3) (by omega) hn h2
            conv => whnf
            refine dsplit (fun h3 => ?_) (fun h3 => absurd (show (1 : Int) ≤ kindZ s by rw [hz]; decide) h3)
            conv => whnf
            refine dsplit (fun h4 => ?_) (fun h4 => absurd (show kindZ s = 3 by rw [hz]; rfl) h4)
            conv => whnf
            (refine call_auto hP (haw) ?_; conv => whnf); (refine ⟨⟨rfl, rfl, rfl, (by repeat' (first | exact trivial | exact rfl | (intro _ _; exact rfl) | (intro _ hj; exact absurd hj (Nat.not_lt_zero _)) | exact Nat.le_refl _ | exact Or.inl (Or.inl (And.intro (fun h => h) rfl)) | exact Or.inl rfl | apply And.intro)), rfl, rfl⟩, ?_⟩; conv => whnf)
            (refine fin_auto ?_; conv => whnf); exact ⟨rfl, rfl, rfl, rfl, (by repeat' (first | exact trivial | exact rfl | (intro _ _; exact rfl) | (intro _ hj; exact absurd hj (Nat.not_lt_zero _)) | exact Nat.le_refl _ | exact Or.inl (Or.inl (And.intro (fun h => h) rfl)) | exact Or.inl rfl | apply And.intro)), rfl⟩
          · have h2 : eqS s 3 = false := by rw [← comm]; exact h1
            conv => whnf
            (repeat' (first | (refine And.intro (by (first | omega | assumption | (simp only [nadd_eq]; omega) | (simp [nadd_eq]; omega))) ?_; conv => whnf) | (refine arI64 (by omega) (by omega) ?_; conv => whnf) | (refine arU32 (by omega) (by omega) ?_; conv => whnf) | (refine arU8 (by omega) (by omega) ?_; conv => whnf)))
            refine ⟨4, ⟨by omega, next hn h2⟩, by omega, ?_⟩
            (conv => whnf); (refine imp_auto hA ?_; conv => whnf); exact ⟨rfl, rfl, rfl, (by repeat' (first | exact trivial | exact rfl | apply And.intro)), (by repeat' (first | exact trivial | exact rfl | (intro _ _; exact rfl) | (intro _ hj; exact absurd hj (Nat.not_lt_zero _)) | exact Nat.le_refl _ | exact Or.inl (Or.inl (And.intro (fun h => h) rfl)) | exact Or.inl rfl | apply And.intro)), rfl⟩
        · conv => whnf
          (repeat' (first | (refine And.intro (by (first | omega | assumption | (simp only [nadd_eq]; omega) | (simp [nadd_eq]; omega))) ?_; conv => whnf) | (refine arI64 (by omega) (by omega) ?_; conv => whnf) | (refine arU32 (by omega) (by omega) ?_; conv => whnf) | (refine arU8 (by omega) (by omega) ?_; conv => whnf)))
          refine bsplit (fun h1 => ?_) (fun h1 => ?_)
          · have h2 : eqS s 4 = true := by rw [← comm]; exact h1
            have hz := kindZ_at (i := 4) (by omega) hn h2
            conv => whnf
            refine dsplit (fun h3 => ?_) (fun h3 => absurd (show (1 : Int) ≤ kindZ s by rw [hz]; decide) h3)
            conv => whnf
            refine dsplit (fun h4 => ?_) (fun h4 => absurd (show kindZ s = 4 by rw [hz]; rfl) h4)
            conv => whnf
            (refine call_auto hP (haw) ?_; conv => whnf); (refine ⟨⟨rfl, rfl, rfl, (by repeat' (first | exact trivial | exact rfl | (intro _ _; exact rfl) | (intro _ hj; exact absurd hj (Nat.not_lt_zero _)) | exact Nat.le_refl _ | exact Or.inl (Or.inl (And.intro (fun h => h) rfl)) | exact Or.inl rfl | apply And.intro)), rfl, rfl⟩, ?_⟩; conv => whnf)
            (refine fin_auto ?_; conv => whnf); exact ⟨rfl, rfl, rfl, rfl, (by repeat' (first | exact trivial | exact rfl | (intro _ _; exact rfl) | (intro _ hj; exact absurd hj (Nat.not_lt_zero _)) | exact Nat.le_refl _ | exact Or.inl (Or.inl (And.intro (fun h => h) rfl)) | exact Or.inl rfl | apply And.intro)), rfl⟩
          · have h2 : eqS s 4 = false := by rw [← comm]; exact h1
            conv => whnf
            (repeat' (first | (refine And.intro (by (first | omega | assumption | (simp only [nadd_eq]; omega) | (simp [nadd_eq]; omega))) ?_; conv => whnf) | (refine arI64 (by omega) (by omega) ?_; conv => whnf) | (refine arU32 (by omega) (by omega) ?_; conv => whnf) | (refine arU8 (by omega) (by omega) ?_; conv => whnf)))
            refine ⟨5, ⟨by omega, next hn h2⟩, by omega, ?_⟩
            (conv => whnf); (refine imp_auto hA ?_; conv => whnf); exact ⟨rfl, rfl, rfl, (by repeat' (first | exact trivial | exact rfl | apply And.intro)), (by repeat' (first | exact trivial | exact rfl | (intro _ _; exact rfl) | (intro _ hj; exact absurd hj (Nat.not_lt_zero _)) | exact Nat.le_refl _ | exact Or.inl (Or.inl (And.intro (fun h => h) rfl)) | exact Or.inl rfl | apply And.intro)), rfl⟩
        · conv => whnf
          (repeat' (first | (refine And.intro (by (first | omega | assumption | (simp only [nadd_eq]; omega) | (simp [nadd_eq]; omega))) ?_; conv => whnf) | (refine arI64 (by omega) (by omega) ?_; conv => whnf) | (refine arU32 (by omega) (by omega) ?_; conv => whnf) | (refine arU8 (by omega) (by omega) ?_; conv => whnf)))
          refine bsplit (fun h1 => ?_) (fun h1 => ?_)
          · have h2 : eqS s 5 = true := by rw [← comm]; exact h1
            have hz := kindZ_at (i := 5) (by omega) hn h2
            conv => whnf
            refine dsplit (fun h3 => ?_) (fun h3 => absurd (show (1 : Int) ≤ kindZ s by rw [hz]; decide) h3)
            conv => whnf
            refine dsplit (fun h4 => ?_) (fun h4 => absurd (show kindZ s = 5 by rw [hz]; rfl) h4)
            conv => whnf
            (refine call_auto hP (haw) ?_; conv => whnf); (refine ⟨⟨rfl, rfl, rfl, (by repeat' (first | exact trivial | exact rfl | (intro _ _; exact rfl) | (intro _ hj; exact absurd hj (Nat.not_lt_zero _)) | exact Nat.le_refl _ | exact Or.inl (Or.inl (And.intro (fun h => h) rfl)) | exact Or.inl rfl | apply And.intro)), rfl, rfl⟩, ?_⟩; conv => whnf)
            (refine fin_auto ?_; conv => whnf); exact ⟨rfl, rfl, rfl, rfl, (by repeat' (first | exact trivial | exact rfl | (intro _ _; exact rfl) | (intro _ hj; exact absurd hj (Nat.not_lt_zero _)) | exact Nat.le_refl _ | exact Or.inl (Or.inl (And.intro (fun h => h) rfl)) | exact Or.inl rfl | apply And.intro)), rfl⟩
          · have h2 : eqS s 5 = false := by rw [← comm]; exact h1
            conv => whnf
            (repeat' (first | (refine And.intro (by (first | omega | assumption | (simp only [nadd_eq]; omega) | (simp [nadd_eq]; omega))) ?_; conv => whnf) | (refine arI64 (by omega) (by omega) ?_; conv => whnf) | (refine arU32 (by omega) (by omega) ?_; conv => whnf) | (refine arU8 (by omega) (by omega) ?_; conv => whnf)))
            refine ⟨6, ⟨by omega, next hn h2⟩, by omega, ?_⟩
            (conv => whnf); (refine imp_auto hA ?_; conv => whnf); exact ⟨rfl, rfl, rfl, (by repeat' (first | exact trivial | exact rfl | apply And.intro)), (by repeat' (first | exact trivial | exact rfl | (intro _ _; exact rfl) | (intro _ hj; exact absurd hj (Nat.not_lt_zero _)) | exact Nat.le_refl _ | exact Or.inl (Or.inl (And.intro (fun h => h) rfl)) | exact Or.inl rfl | apply And.intro)), rfl⟩
        · conv => whnf
          (repeat' (first | (refine And.intro (by (first | omega | assumption | (simp only [nadd_eq]; omega) | (simp [nadd_eq]; omega))) ?_; conv => whnf) | (refine arI64 (by omega) (by omega) ?_; conv => whnf) | (refine arU32 (by omega) (by omega) ?_; conv => whnf) | (refine arU8 (by omega) (by omega) ?_; conv => whnf)))
          refine bsplit (fun h1 => ?_) (fun h1 => ?_)
          · have h2 : eqS s 6 = true := by rw [← comm]; exact h1
            have hz := kindZ_at (i := 6) (by omega) hn h2
            conv => whnf
            refine dsplit (fun h3 => ?_) (fun h3 => absurd (show (1 : Int) ≤ kindZ s by rw [hz]; decide) h3)
            conv => whnf
            refine dsplit (fun h4 => ?_) (fun h4 => absurd (show kindZ s = 6 by rw [hz]; rfl) h4)
            conv => whnf
            (refine call_auto hP (haw) ?_; conv => whnf); (refine ⟨⟨rfl, rfl, rfl, (by repeat' (first | exact trivial | exact rfl | (intro _ _; exact rfl) | (intro _ hj; exact absurd hj (Nat.not_lt_zero _)) | exact Nat.le_refl _ | exact Or.inl (Or.inl (And.intro (fun h => h) rfl)) | exact Or.inl rfl | apply And.intro)), rfl, rfl⟩, ?_⟩; conv => whnf)
            (refine fin_auto ?_; conv => whnf); exact ⟨rfl, rfl, rfl, rfl, (by repeat' (first | exact trivial | exact rfl | (intro _ _; exact rfl) | (intro _ hj; exact absurd hj (Nat.not_lt_zero _)) | exact Nat.le_refl _ | exact Or.inl (Or.inl (And.intro (fun h => h) rfl)) | exact Or.inl rfl | apply And.intro)), rfl⟩
          · have h2 : eqS s 6 = false := by rw [← comm]; exact h1
            conv => whnf
            (repeat' (first | (refine And.intro (by (first | omega | assumption | (simp only [nadd_eq]; omega) | (simp [nadd_eq]; omega))) ?_; conv => whnf) | (refine arI64 (by omega) (by omega) ?_; conv => whnf) | (refine arU32 (by omega) (by omega) ?_; conv => whnf) | (refine arU8 (by omega) (by omega) ?_; conv => whnf)))
            refine ⟨7, ⟨by omega, next hn h2⟩, by omega, ?_⟩
            (conv => whnf); (refine imp_auto hA ?_; conv => whnf); exact ⟨rfl, rfl, rfl, (by repeat' (first | exact trivial | exact rfl | apply And.intro)), (by repeat' (first | exact trivial | exact rfl | (intro _ _; exact rfl) | (intro _ hj; exact absurd hj (Nat.not_lt_zero _)) | exact Nat.le_refl _ | exact Or.inl (Or.inl (And.intro (fun h => h) rfl)) | exact Or.inl rfl | apply And.intro)), rfl⟩
        · conv => whnf
          (repeat' (first | (refine And.intro (by (first | omega | assumption | (simp only [nadd_eq]; omega) | (simp [nadd_eq]; omega))) ?_; conv => whnf) | (refine arI64 (by omega) (by omega) ?_; conv => whnf) | (refine arU32 (by omega) (by omega) ?_; conv => whnf) | (refine arU8 (by omega) (by omega) ?_; conv => whnf)))
          refine bsplit (fun h1 => ?_) (fun h1 => ?_)
          · have h2 : eqS s 7 = true := by rw [← comm]; exact h1
            have hz := kindZ_at (i := 7) (by omega) hn h2
            conv => whnf
            refine dsplit (fun h3 => ?_) (fun h3 => absurd (show (1 : Int) ≤ kindZ s by rw [hz]; decide) h3)
            conv => whnf
            refine dsplit (fun h4 => ?_) (fun h4 => absurd (show kindZ s = 7 by rw [hz]; rfl) h4)
            conv => whnf
            (refine call_auto hP (haw) ?_; conv => whnf); (refine ⟨⟨rfl, rfl, rfl, (by repeat' (first | exact trivial | exact rfl | (intro _ _; exact rfl) | (intro _ hj; exact absurd hj (Nat.not_lt_zero _)) | exact Nat.le_refl _ | exact Or.inl (Or.inl (And.intro (fun h => h) rfl)) | exact Or.inl rfl | apply And.intro)), rfl, rfl⟩, ?_⟩; conv => whnf)
            (refine fin_auto ?_; conv => whnf); exact ⟨rfl, rfl, rfl, rfl, (by repeat' (first | exact trivial | exact rfl | (intro _ _; exact rfl) | (intro _ hj; exact absurd hj (Nat.not_lt_zero _)) | exact Nat.le_refl _ | exact Or.inl (Or.inl (And.intro (fun h => h) rfl)) | exact Or.inl rfl | apply And.intro)), rfl⟩
          · have h2 : eqS s 7 = false := by rw [← comm]; exact h1
            conv => whnf
            (repeat' (first | (refine And.intro (by (first | omega | assumption | (simp only [nadd_eq]; omega) | (simp [nadd_eq]; omega))) ?_; conv => whnf) | (refine arI64 (by omega) (by omega) ?_; conv => whnf) | (refine arU32 (by omega) (by omega) ?_; conv => whnf) | (refine arU8 (by omega) (by omega) ?_; conv => whnf)))
            refine ⟨8, ⟨by omega, next hn h2⟩, by omega, ?_⟩
            (conv => whnf); (refine imp_auto hA ?_; conv => whnf); exact ⟨rfl, rfl, rfl, (by repeat' (first | exact trivial | exact rfl | apply And.intro)), (by repeat' (first | exact trivial | exact rfl | (intro _ _; exact rfl) | (intro _ hj; exact absurd hj (Nat.not_lt_zero _)) | exact Nat.le_refl _ | exact Or.inl (Or.inl (And.intro (fun h => h) rfl)) | exact Or.inl rfl | apply And.intro)), rfl⟩
        · have hz := kindZ_none hn
          conv => whnf
          refine bsplit (fun h3 => ?_) (fun h3 => absurd (show (!decide ((1 : Int) ≤ kindZ s)) = false from h3) (by rw [hz]; decide))
          conv => whnf
          refine dsplit (fun h4 => ?_) (fun h4 => absurd hz h4)
          conv => whnf
          (refine call_auto hP (haw) ?_; conv => whnf); (refine ⟨⟨rfl, rfl, rfl, (by repeat' (first | exact trivial | exact rfl | (intro _ _; exact rfl) | (intro _ hj; exact absurd hj (Nat.not_lt_zero _)) | exact Nat.le_refl _ | exact Or.inl (Or.inl (And.intro (fun h => h) rfl)) | exact Or.inl rfl | apply And.intro)), rfl, rfl⟩, ?_⟩; conv => whnf)
          (refine fin_auto ?_; conv => whnf); exact ⟨rfl, rfl, rfl, rfl, (by repeat' (first | exact trivial | exact rfl | (intro _ _; exact rfl) | (intro _ hj; exact absurd hj (Nat.not_lt_zero _)) | exact Nat.le_refl _ | exact Or.inl (Or.inl (And.intro (fun h => h) rfl)) | exact Or.inl rfl | apply And.intro)), rfl⟩
end Go.Proofs.YtmccmanekbiadaaDoor
