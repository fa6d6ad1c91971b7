/- SerialRuns: does some job stand twice? -/
import Derived.Test.YtfkhaicghoiijabSj
set_option linter.unusedSimpArgs false
set_option linter.unusedVariables false
namespace Go.Proofs.Ytfkhaicghoiijab
open Go Go.Sx

def pkN (T J : Nat → Int) (i : Nat) : Int := T i * 18446744073709551616 + J i
def memR (T J : Nat → Int) (i : Nat) : Nat → Bool
  | 0 => false
  | k + 1 => memR T J i k || (decide (T i = T k) && decide (J i = J k))
def twB (T J : Nat → Int) : Nat → Bool
  | 0 => false
  | i + 1 => twB T J i || memR T J i i
def mT (T J : Nat → Int) : Nat → Int → Option Int
  | 0 => fun _ => none
  | i + 1 => mupd (mupd (mT T J i) (pkN T J i) (some ((mT T J i (pkN T J i)).getD 0))) (pkN T J i) (some ((mT T J i (pkN T J i)).getD 0 + 1))
def zT (T J : Nat → Int) : Nat → Nat
  | 0 => 0
  | i + 1 => msz (mT T J i) (pkN T J i) (zT T J i)
/-- What is handed in are numbers of its kind. -/
def ranI (T J : Nat → Int) (m : Nat) : Prop := ∀ i, i < m → ((IntKind.i64.min ≤ T i ∧ T i ≤ IntKind.i64.max) ∧ (IntKind.i64.min ≤ J i ∧ J i ≤ IntKind.i64.max) ∧ -9223372036854775808 ≤ J i ∧ J i ≤ 9223372036854775807)
theorem mT_mem (T J : Nat → Int) (x : Nat) : ∀ i, (∀ k, k < i → -9223372036854775808 ≤ J k ∧ J k ≤ 9223372036854775807) → (-9223372036854775808 ≤ J x ∧ J x ≤ 9223372036854775807) →
    0 ≤ (mT T J i (pkN T J x)).getD 0 ∧ (mT T J i (pkN T J x)).getD 0 ≤ i ∧ (0 < (mT T J i (pkN T J x)).getD 0 ↔ memR T J x i = true)
  | 0, _, _ => by simp [mT, memR]
  | i + 1, h, hx => by
    obtain ⟨h1, h2, h3⟩ := mT_mem T J x i (fun k hk => h k (by omega)) hx
    have hi := h i (by omega)
    by_cases e : pkN T J x = pkN T J i
    · have e1 : T x = T i ∧ J x = J i := by unfold pkN at e; omega
      simp only [mT, mupd, e, if_true, Option.getD_some, memR, e1.1, e1.2, decide_true, Bool.and_true, Bool.or_true]
      rw [e] at h1 h2
      refine ⟨by omega, by omega, by simp; omega⟩
    · have e1 : ¬ (T x = T i ∧ J x = J i) := fun hh => e (by unfold pkN; rw [hh.1, hh.2])
      have e2 : (decide (T x = T i) && decide (J x = J i)) = false := by
        rw [Bool.eq_false_iff]; intro hh; simp only [Bool.and_eq_true, decide_eq_true_eq] at hh; exact e1 hh
      simp only [mT, mupd, e, if_false, memR, e2, Bool.or_false]
      exact ⟨h1, by omega, h3⟩
theorem twB_mono (T J : Nat → Int) {i m : Nat} (h : twB T J i = true) (hi : i ≤ m) : twB T J m = true := by
  induction m with
  | zero => obtain rfl : i = 0 := by omega
            exact h
  | succ m ih =>
    by_cases e : i = m + 1
    · subst e; exact h
    · simp only [twB, ih (by omega), Bool.true_or]
set_option maxHeartbeats 1000000 in
theorem twice_spec (T J : Nat → Int) (m : Nat) (hm : m ≤ 1000) (hr : ranI T J m) :
    FSpec Try.prog 18 [(0, some (.ro 2 m (ranE T J)))] 1 [.l (.s 0 2 0 m 0)] fun x h n => x = sBool (twB T J m) ∧ n = 1 ∧ h = [] := by
  refine spec_of_ev Try.func18 ic18_eq (rs := [.t 2]) (by kernel_rfl) (by kernel_rfl) (by kernel_rfl) fun G hP hA => ?_
  unfold evF ic18
  conv => whnf
  refine loop_auto (α := Nat) (ds := []) (N := 2) (fun i => [(9, sInt .i64 (i : Int))]) [] (fun i => [(1, some (.mp (.p .i64 .i64) .i64 (mT T J i) (zT T J i) none))])
    (fun i => i ≤ m ∧ twB T J i = false) (fun i => m - i) 0 ⟨Nat.zero_le _, rfl⟩ ?_ fun i hi => ?_
  · (conv => whnf); (refine imp_auto hA ?_; conv => whnf)
    exact ⟨rfl, rfl, rfl, (by repeat' (first | exact trivial | exact rfl | apply And.intro)), ⟨⟨rfl, rfl, rfl, fun _ => rfl, rfl⟩, ⟨rfl, Nat.le_refl _, fun _ _ => rfl⟩, trivial⟩, rfl⟩
  · obtain ⟨hi0, hi1⟩ := hi
    have hni : nadd 0 ((i : Nat) : Int).toNat = i := by simp [nadd_eq]
    conv => whnf
    refine dsplit (fun h1 => ?_) (fun h1 => ?_)
    · have hk := hr i (by omega)
      obtain ⟨g1, g2, g3⟩ := mT_mem T J i i (fun k hk => (hr k (by omega)).2.2) hk.2.2
      replace g1 : 0 ≤ (mT T J i (T i * 18446744073709551616 + J i)).getD 0 := g1
      replace g2 : (mT T J i (T i * 18446744073709551616 + J i)).getD 0 ≤ i := g2
      conv => whnf
      (repeat' (first | (refine And.intro (by (first | omega | assumption | (simp only [nadd_eq]; omega) | (simp [nadd_eq]; omega))) ?_; conv => whnf) | (refine arI64 (by omega) (by omega) ?_; conv => whnf) | (refine arU32 (by omega) (by omega) ?_; conv => whnf) | (refine arU8 (by omega) (by omega) ?_; conv => whnf)))
      rw [hni]
      conv => whnf
      (refine drawP_intro (by rw [hP]; exact follows) (by kernel_rfl) ?_; conv => whnf)
      (repeat' (first | (refine And.intro (by (first | omega | assumption | (simp only [nadd_eq]; omega) | (simp [nadd_eq]; omega))) ?_; conv => whnf) | (refine arI64 (by omega) (by omega) ?_; conv => whnf) | (refine arU32 (by omega) (by omega) ?_; conv => whnf) | (refine arU8 (by omega) (by omega) ?_; conv => whnf)))
      (repeat (refine And.intro (by (conv => whnf); first | exact ⟨rfl, rfl, rfl⟩ | exact ⟨hk, rfl, rfl, rfl⟩ | exact ⟨hk, by simp [mupd, sInt], rfl, rfl⟩) ?_; conv => whnf))
      (repeat' (first | (refine And.intro (by (first | omega | assumption | (simp only [nadd_eq]; omega) | (simp [nadd_eq]; omega))) ?_; conv => whnf) | (refine arI64 (by omega) (by omega) ?_; conv => whnf) | (refine arU32 (by omega) (by omega) ?_; conv => whnf) | (refine arU8 (by omega) (by omega) ?_; conv => whnf)))
      have hv : (mupd (mupd (mT T J i) (T i * 18446744073709551616 + J i) (some ((mT T J i (T i * 18446744073709551616 + J i)).getD 0))) (T i * 18446744073709551616 + J i)
        (some ((mT T J i (T i * 18446744073709551616 + J i)).getD 0 + 1)) (T i * 18446744073709551616 + J i)).getD 0 = (mT T J i (pkN T J i)).getD 0 + 1 := by simp [mupd, pkN]
      refine dsplit (fun h2 => ?_) (fun h2 => ?_)
      · rw [hv] at h2
        conv => whnf
        (refine fin_auto ?_; conv => whnf); refine ⟨rfl, rfl, rfl, bool_fin ?_, (by repeat' (first | exact trivial | exact rfl | (intro _ _; exact rfl) | (intro _ hj; exact absurd hj (Nat.not_lt_zero _)) | exact Nat.le_refl _ | exact Or.inl (Or.inl (And.intro (fun h => h) rfl)) | apply And.intro)), rfl⟩
        refine (twB_mono T J ?_ (show i + 1 ≤ m by omega)).symm
        simp only [twB, g3.1 (by omega), Bool.or_true]
      · rw [hv] at h2
        conv => whnf
        (repeat' (first | (refine And.intro (by (first | omega | assumption | (simp only [nadd_eq]; omega) | (simp [nadd_eq]; omega))) ?_; conv => whnf) | (refine arI64 (by omega) (by omega) ?_; conv => whnf) | (refine arU32 (by omega) (by omega) ?_; conv => whnf) | (refine arU8 (by omega) (by omega) ?_; conv => whnf)))
        refine ⟨i + 1, ⟨by omega, ?_⟩, by omega, ?_⟩
        · have : memR T J i i = false := by
            rw [Bool.eq_false_iff]; intro hh
            have := g3.2 hh
            omega
          simp only [twB, hi1, this, Bool.or_false]
        · (conv => whnf); (refine imp_auto hA ?_; conv => whnf)
          exact ⟨rfl, rfl, rfl, (by repeat' (first | exact trivial | exact rfl | apply And.intro)), ⟨⟨rfl, rfl, rfl, fun _ => rfl, rfl⟩, ⟨rfl, Nat.le_refl _, fun _ _ => rfl⟩, trivial⟩, rfl⟩
    · obtain rfl : i = m := by omega
      conv => whnf
      (refine fin_auto ?_; conv => whnf); refine ⟨rfl, rfl, rfl, bool_fin ?_, (by repeat' (first | exact trivial | exact rfl | (intro _ _; exact rfl) | (intro _ hj; exact absurd hj (Nat.not_lt_zero _)) | exact Nat.le_refl _ | exact Or.inl (Or.inl (And.intro (fun h => h) rfl)) | apply And.intro)), rfl⟩
      exact hi1.symm
theorem memR_mono (T J : Nat → Int) {x i m : Nat} (h : memR T J x i = true) (hi : i ≤ m) : memR T J x m = true := by
  induction m with
  | zero => obtain rfl : i = 0 := by omega
            exact h
  | succ m ih =>
    by_cases e : i = m + 1
    · subst e; exact h
    · simp only [memR, ih (by omega), Bool.true_or]
set_option maxHeartbeats 1000000 in
theorem twice19_spec (T J : Nat → Int) (m : Nat) (hm : m ≤ 1000) :
    FSpec Try.prog 19 [(0, some (.ro 2 m (ranE T J)))] 1 [.l (.s 0 2 0 m 0)] fun x h n => x = sBool (twB T J m) ∧ n = 1 ∧ h = [] := by
  refine spec_of_ev Try.func19 ic19_eq (rs := [.t 2]) (by kernel_rfl) (by kernel_rfl) (by kernel_rfl) fun G hP hA => ?_
  unfold evF ic19
  conv => whnf
  refine loop_auto (α := Nat) (ds := []) (N := 1) (fun i => [(7, sInt .i64 (i : Int))]) [] (fun _ => [])
    (fun i => i ≤ m ∧ twB T J i = false) (fun i => m - i) 0 ⟨Nat.zero_le _, rfl⟩ ?_ fun i hi => ?_
  · (conv => whnf); (refine imp_auto hA ?_; conv => whnf); exact ⟨rfl, rfl, rfl, (by repeat' (first | exact trivial | exact rfl | apply And.intro)), (by repeat' (first | exact trivial | exact rfl | (intro _ _; exact rfl) | (intro _ hj; exact absurd hj (Nat.not_lt_zero _)) | exact Nat.le_refl _ | exact Or.inl (Or.inl (And.intro (fun h => h) rfl)) | apply And.intro)), rfl⟩
  · obtain ⟨hi0, hi1⟩ := hi
    have hni : nadd 0 ((i : Nat) : Int).toNat = i := by simp [nadd_eq]
    conv => whnf
    refine dsplit (fun h1 => ?_) (fun h1 => ?_)
    · conv => whnf
      (repeat' (first | (refine And.intro (by (first | omega | assumption | (simp only [nadd_eq]; omega) | (simp [nadd_eq]; omega))) ?_; conv => whnf) | (refine arI64 (by omega) (by omega) ?_; conv => whnf) | (refine arU32 (by omega) (by omega) ?_; conv => whnf) | (refine arU8 (by omega) (by omega) ?_; conv => whnf)))
      refine loop_auto (α := Nat) (ds := []) (N := 1) (fun k => [(4, sInt .i64 (k : Int))]) [] (fun _ => [])
        (fun k => k ≤ i ∧ memR T J i k = false) (fun k => i - k) 0 ⟨Nat.zero_le _, rfl⟩ ?_ fun k hk => ?_
      · (conv => whnf); (refine imp_auto hA ?_; conv => whnf); exact ⟨rfl, rfl, rfl, (by repeat' (first | exact trivial | exact rfl | apply And.intro)), (by repeat' (first | exact trivial | exact rfl | (intro _ _; exact rfl) | (intro _ hj; exact absurd hj (Nat.not_lt_zero _)) | exact Nat.le_refl _ | exact Or.inl (Or.inl (And.intro (fun h => h) rfl)) | apply And.intro)), rfl⟩
      · obtain ⟨hk0, hk1⟩ := hk
        have hnk : nadd 0 ((k : Nat) : Int).toNat = k := by simp [nadd_eq]
        conv => whnf
        refine dsplit (fun h2 => ?_) (fun h2 => ?_)
        · conv => whnf
          (refine drawP_intro (by rw [hP]; exact follows) (by kernel_rfl) ?_; conv => whnf)
          (repeat' (first | (refine And.intro (by (first | omega | assumption | (simp only [nadd_eq]; omega) | (simp [nadd_eq]; omega))) ?_; conv => whnf) | (refine arI64 (by omega) (by omega) ?_; conv => whnf) | (refine arU32 (by omega) (by omega) ?_; conv => whnf) | (refine arU8 (by omega) (by omega) ?_; conv => whnf)))
          refine bsplit (fun h3 => ?_) (fun h3 => ?_)
          · rw [hni, hnk] at h3
            replace h3 : (decide (T i = T k) && decide (J i = J k)) = true := h3
            conv => whnf
            (refine fin_auto ?_; conv => whnf); refine ⟨rfl, rfl, rfl, bool_fin ?_, (by repeat' (first | exact trivial | exact rfl | (intro _ _; exact rfl) | (intro _ hj; exact absurd hj (Nat.not_lt_zero _)) | exact Nat.le_refl _ | exact Or.inl (Or.inl (And.intro (fun h => h) rfl)) | apply And.intro)), rfl⟩
            refine (twB_mono T J ?_ (show i + 1 ≤ m by omega)).symm
            have : memR T J i (k + 1) = true := by simp only [memR, h3, Bool.or_true]
            simp only [twB, memR_mono T J this (show k + 1 ≤ i by omega), Bool.or_true]
          · rw [hni, hnk] at h3
            replace h3 : (decide (T i = T k) && decide (J i = J k)) = false := h3
            conv => whnf
            (repeat' (first | (refine And.intro (by (first | omega | assumption | (simp only [nadd_eq]; omega) | (simp [nadd_eq]; omega))) ?_; conv => whnf) | (refine arI64 (by omega) (by omega) ?_; conv => whnf) | (refine arU32 (by omega) (by omega) ?_; conv => whnf) | (refine arU8 (by omega) (by omega) ?_; conv => whnf)))
            refine ⟨k + 1, ⟨by omega, ?_⟩, by omega, ?_⟩
            · simp only [memR, h3, hk1, Bool.or_false]
            · (conv => whnf); (refine imp_auto hA ?_; conv => whnf); exact ⟨rfl, rfl, rfl, (by repeat' (first | exact trivial | exact rfl | apply And.intro)), (by repeat' (first | exact trivial | exact rfl | (intro _ _; exact rfl) | (intro _ hj; exact absurd hj (Nat.not_lt_zero _)) | exact Nat.le_refl _ | exact Or.inl (Or.inl (And.intro (fun h => h) rfl)) | apply And.intro)), rfl⟩
        · obtain rfl : k = i := by omega
          conv => whnf
          (repeat' (first | (refine And.intro (by (first | omega | assumption | (simp only [nadd_eq]; omega) | (simp [nadd_eq]; omega))) ?_; conv => whnf) | (refine arI64 (by omega) (by omega) ?_; conv => whnf) | (refine arU32 (by omega) (by omega) ?_; conv => whnf) | (refine arU8 (by omega) (by omega) ?_; conv => whnf)))
          refine ⟨k + 1, ⟨by omega, ?_⟩, by omega, ?_⟩
          · simp only [twB, hi1, hk1, Bool.or_false]
          · (conv => whnf); (refine imp_auto hA ?_; conv => whnf); exact ⟨rfl, rfl, rfl, (by repeat' (first | exact trivial | exact rfl | apply And.intro)), (by repeat' (first | exact trivial | exact rfl | (intro _ _; exact rfl) | (intro _ hj; exact absurd hj (Nat.not_lt_zero _)) | exact Nat.le_refl _ | exact Or.inl (Or.inl (And.intro (fun h => h) rfl)) | apply And.intro)), rfl⟩
    · obtain rfl : i = m := by omega
      conv => whnf
      (refine fin_auto ?_; conv => whnf); refine ⟨rfl, rfl, rfl, bool_fin ?_, (by repeat' (first | exact trivial | exact rfl | (intro _ _; exact rfl) | (intro _ hj; exact absurd hj (Nat.not_lt_zero _)) | exact Nat.le_refl _ | exact Or.inl (Or.inl (And.intro (fun h => h) rfl)) | apply And.intro)), rfl⟩
      exact hi1.symm
end Go.Proofs.Ytfkhaicghoiijab
