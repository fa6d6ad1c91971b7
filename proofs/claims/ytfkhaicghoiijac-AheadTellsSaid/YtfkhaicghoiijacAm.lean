/- Ahead*: the longest queue; who is ahead. -/
import Derived.Test.YtfkhaicghoiijacAl
set_option linter.unusedSimpArgs false
set_option linter.unusedVariables false
namespace Go.Proofs.Ytfkhaicghoiijac
open Go Go.Sx

theorem szN_le (k t : Nat → Int) : ∀ i, szN k t i ≤ i
  | 0 => Nat.le_refl _
  | i + 1 => by
    have := szN_le k t i
    simp only [szN, turnS]
    split
    · unfold msz; split <;> omega
    · split
      · unfold mszd; split <;> omega
      · omega
theorem mxN_le (k t : Nat → Int) : ∀ i, mxN k t i ≤ i
  | 0 => Nat.le_refl _
  | i + 1 => by
    have h1 := mxN_le k t i
    have h2 := szN_le k t (i + 1)
    simp only [mxN]; omega
theorem longest_spec (k t : Nat → Int) (a : Nat → Int) (b : Nat → Bool) (m : Nat) (hm : m ≤ 1000) (ht : ∀ i, i < m → inI (t i)) :
    FSpec Try.prog 9 [(0, some (.ro 4 m (entE k t a b)))] 1 [.l (.s 0 4 0 m 0)] fun x h n => x = sInt .i64 (mxN k t m : Int) ∧ n = 1 ∧ h = [] := by
  refine spec_of_ev Try.func9 ic9_eq (rs := [.t 2]) (by kernel_rfl) (by kernel_rfl) (by kernel_rfl) fun G hP hA => ?_
  unfold evF ic9
  conv => whnf
  refine loop_auto (α := Nat) (ds := []) (N := 2) (fun i => [(4, sInt .i64 (mxN k t i : Int)), (10, sInt .i64 (i : Int))]) [] (fun i => [(1, some (.mp .i64 .i64 (mapN k t i) (szN k t i) none))])
    (fun i => i ≤ m) (fun i => m - i) 0 (Nat.zero_le _) ?_ fun i hi => ?_
  · (conv => whnf); (refine imp_auto hA ?_; conv => whnf)
    exact ⟨rfl, rfl, rfl, (by repeat' (first | exact trivial | exact rfl | apply And.intro)), ⟨⟨rfl, rfl, rfl, fun _ => rfl, rfl⟩, ⟨rfl, Nat.le_refl _, fun _ _ => rfl⟩, trivial⟩, rfl⟩
  · conv => whnf
    refine dsplit (fun h1 => ?_) (fun h1 => ?_)
    · have htu := turn_spec (k i) (t i) (a i) (b i) (mapN k t i) (szN k t i) (ht i (by omega))
      have hz := szN_le k t (i + 1)
      have hx := mxN_le k t (i + 1)
      have hmx : (mxN k t (i + 1) : Int) = max (mxN k t i : Int) (szN k t (i + 1) : Int) := by simp only [mxN]; omega
      conv => whnf
      (repeat' (first | (refine And.intro (by (first | omega | assumption | (simp only [nadd_eq]; omega) | (simp [nadd_eq]; omega))) ?_; conv => whnf) | (refine arI64 (by omega) (by omega) ?_; conv => whnf) | (refine arU32 (by omega) (by omega) ?_; conv => whnf) | (refine arU8 (by omega) (by omega) ?_; conv => whnf)))
      (refine call_auto hP (htu) ?_; conv => whnf); refine ⟨⟨rfl, rfl, rfl, ?_, rfl, rfl⟩, ?_⟩
      · exact ⟨⟨rfl, rfl, rfl, fun _ => rfl, rfl⟩, trivial⟩
      conv => whnf
      (repeat' (first | (refine And.intro (by (first | omega | assumption | (simp only [nadd_eq]; omega) | (simp [nadd_eq]; omega))) ?_; conv => whnf) | (refine arI64 (by omega) (by omega) ?_; conv => whnf) | (refine arU32 (by omega) (by omega) ?_; conv => whnf) | (refine arU8 (by omega) (by omega) ?_; conv => whnf)))
      refine ⟨i + 1, by omega, by omega, ?_⟩
      rw [hmx]
      (conv => whnf); (refine imp_auto hA ?_; conv => whnf)
      exact ⟨rfl, rfl, rfl, (by repeat' (first | exact trivial | exact rfl | apply And.intro)), ⟨⟨rfl, rfl, rfl, fun _ => rfl, rfl⟩, ⟨rfl, Nat.le_refl _, fun _ _ => rfl⟩, trivial⟩, rfl⟩
    · obtain rfl : i = m := by omega
      conv => whnf
      (refine fin_auto ?_; conv => whnf); exact ⟨rfl, rfl, rfl, rfl, (by repeat' (first | exact trivial | exact rfl | (intro _ _; exact rfl) | (intro _ hj; exact absurd hj (Nat.not_lt_zero _)) | exact Nat.le_refl _ | exact Or.inl (And.intro (fun h => h) rfl) | apply And.intro)), rfl⟩
theorem at_spec (k t : Nat → Int) (a : Nat → Int) (b : Nat → Bool) (m : Nat) (j : Int) (q : Nat) (hq : (q : Int) = min (max j 0) m) (hm : m ≤ 1000) (ht : ∀ i, i < m → inI (t i)) :
    FSpec Try.prog 17 [(0, some (.ro 4 m (entE k t a b)))] 1 [.l (.s 0 4 0 m 0), .l (.v (.int .i64 j))] fun x h n => x = .o (.l (.mref 1)) ∧ n = 2 ∧ h = [(1, some (.mp .i64 .i64 (mapN k t q) (szN k t q) none))] := by
  refine spec_of_ev Try.func17 ic17_eq (rs := [.t 4]) (by kernel_rfl) (by kernel_rfl) (by kernel_rfl) fun G hP hA => ?_
  unfold evF ic17
  conv => whnf
  rw [← hq]
  (repeat' (first | (refine And.intro (by (first | omega | assumption | (simp only [nadd_eq]; omega) | (simp [nadd_eq]; omega))) ?_; conv => whnf) | (refine arI64 (by omega) (by omega) ?_; conv => whnf) | (refine arU32 (by omega) (by omega) ?_; conv => whnf) | (refine arU8 (by omega) (by omega) ?_; conv => whnf)))
  refine loop_auto (α := Nat) (ds := []) (N := 2) (fun i => [(17, sInt .i64 (i : Int))]) [] (fun i => [(1, some (.mp .i64 .i64 (mapN k t i) (szN k t i) none))])
    (fun i => i ≤ q) (fun i => q - i) 0 (Nat.zero_le _) ?_ fun i hi => ?_
  · (conv => whnf); (refine imp_auto hA ?_; conv => whnf)
    exact ⟨rfl, rfl, rfl, (by repeat' (first | exact trivial | exact rfl | apply And.intro)), ⟨⟨rfl, rfl, rfl, fun _ => rfl, rfl⟩, ⟨rfl, Nat.le_refl _, fun _ _ => rfl⟩, trivial⟩, rfl⟩
  · conv => whnf
    refine dsplit (fun h1 => ?_) (fun h1 => ?_)
    · replace h1 : (i : Int) < (q : Int) := h1
      have htu := turn_spec (k i) (t i) (a i) (b i) (mapN k t i) (szN k t i) (ht i (by omega))
      conv => whnf
      (repeat' (first | (refine And.intro (by (first | omega | assumption | (simp only [nadd_eq]; omega) | (simp [nadd_eq]; omega))) ?_; conv => whnf) | (refine arI64 (by omega) (by omega) ?_; conv => whnf) | (refine arU32 (by omega) (by omega) ?_; conv => whnf) | (refine arU8 (by omega) (by omega) ?_; conv => whnf)))
      (refine call_auto hP (htu) ?_; conv => whnf); refine ⟨⟨rfl, rfl, rfl, ?_, rfl, rfl⟩, ?_⟩
      · exact ⟨⟨rfl, rfl, rfl, fun _ => rfl, rfl⟩, trivial⟩
      conv => whnf
      (repeat' (first | (refine And.intro (by (first | omega | assumption | (simp only [nadd_eq]; omega) | (simp [nadd_eq]; omega))) ?_; conv => whnf) | (refine arI64 (by omega) (by omega) ?_; conv => whnf) | (refine arU32 (by omega) (by omega) ?_; conv => whnf) | (refine arU8 (by omega) (by omega) ?_; conv => whnf)))
      refine ⟨i + 1, by omega, by omega, ?_⟩
      (conv => whnf); (refine imp_auto hA ?_; conv => whnf)
      exact ⟨rfl, rfl, rfl, (by repeat' (first | exact trivial | exact rfl | apply And.intro)), ⟨⟨rfl, rfl, rfl, fun _ => rfl, rfl⟩, ⟨rfl, Nat.le_refl _, fun _ _ => rfl⟩, trivial⟩, rfl⟩
    · replace h1 : ¬ (i : Int) < (q : Int) := h1
      obtain rfl : i = q := by omega
      conv => whnf
      (refine fin_auto ?_; conv => whnf); refine ⟨rfl, rfl, rfl, ?_, ?_, rfl⟩
      · rfl
      · exact ⟨⟨rfl, rfl, rfl, fun _ => rfl, rfl⟩, trivial⟩
def aheadN (k t : Nat → Int) (m : Nat) (j : Int) : Int := if 0 ≤ j ∧ j < m ∧ k j.toNat = 2 then (mszd (mapN k t j.toNat) (t j.toNat) (szN k t j.toNat) : Nat) else -1
theorem ahead_spec (k t : Nat → Int) (a : Nat → Int) (b : Nat → Bool) (m : Nat) (j : Int) (hm : m ≤ 1000) (ht : ∀ i, i < m → inI (t i)) :
    FSpec Try.prog 12 [(0, some (.ro 4 m (entE k t a b)))] 1 [.l (.s 0 4 0 m 0), .l (.v (.int .i64 j))] fun x h n => x = sInt .i64 (aheadN k t m j) ∧ n = 1 ∧ h = [] := by
  have neg : ¬ (0 ≤ j ∧ j < m ∧ k j.toNat = 2) → aheadN k t m j = -1 := fun h => if_neg h
  refine spec_of_ev Try.func12 ic12_eq (rs := [.t 4]) (by kernel_rfl) (by kernel_rfl) (by kernel_rfl) fun G hP hA => ?_
  unfold evF ic12
  conv => whnf
  refine dsplit (fun h1 => ?_) (fun h1 => ?_)
  · conv => whnf
    (refine fin_auto ?_; conv => whnf); refine ⟨rfl, rfl, rfl, int_fin ?_, (by repeat' (first | exact trivial | exact rfl | (intro _ _; exact rfl) | (intro _ hj; exact absurd hj (Nat.not_lt_zero _)) | exact Nat.le_refl _ | exact Or.inl (And.intro (fun h => h) rfl) | apply And.intro)), rfl⟩
    exact (neg (by omega)).symm
  · conv => whnf
    refine dsplit (fun h2 => ?_) (fun h2 => ?_)
    · conv => whnf
      (refine fin_auto ?_; conv => whnf); refine ⟨rfl, rfl, rfl, int_fin ?_, (by repeat' (first | exact trivial | exact rfl | (intro _ _; exact rfl) | (intro _ hj; exact absurd hj (Nat.not_lt_zero _)) | exact Nat.le_refl _ | exact Or.inl (And.intro (fun h => h) rfl) | apply And.intro)), rfl⟩
      exact (neg (by omega)).symm
    · obtain ⟨q, rfl⟩ : ∃ q : Nat, j = (q : Int) := ⟨j.toNat, by omega⟩
      conv => whnf
      (repeat' (first | (refine And.intro (by (first | omega | assumption | (simp only [nadd_eq]; omega) | (simp [nadd_eq]; omega))) ?_; conv => whnf) | (refine arI64 (by omega) (by omega) ?_; conv => whnf) | (refine arU32 (by omega) (by omega) ?_; conv => whnf) | (refine arU8 (by omega) (by omega) ?_; conv => whnf)))
      refine dsplit (fun h3 => ?_) (fun h3 => ?_)
      · replace h3 : k q ≠ 2 := h3
        conv => whnf
        (refine fin_auto ?_; conv => whnf); refine ⟨rfl, rfl, rfl, int_fin ?_, (by repeat' (first | exact trivial | exact rfl | (intro _ _; exact rfl) | (intro _ hj; exact absurd hj (Nat.not_lt_zero _)) | exact Nat.le_refl _ | exact Or.inl (And.intro (fun h => h) rfl) | apply And.intro)), rfl⟩
        exact (neg fun h => h3 h.2.2).symm
      · replace h3 : ¬ k q ≠ 2 := h3
        have hat := at_spec k t a b m q q (by omega) hm ht
        have hq := ht q (by omega)
        have hz := szN_le k t q
        conv => whnf
        (refine call_auto hP (hat) ?_; conv => whnf); (refine ⟨⟨rfl, rfl, rfl, (by repeat' (first | exact trivial | exact rfl | (intro _ _; exact rfl) | (intro _ hj; exact absurd hj (Nat.not_lt_zero _)) | exact Nat.le_refl _ | exact Or.inl (And.intro (fun h => h) rfl) | apply And.intro)), rfl, rfl⟩, ?_⟩; conv => whnf)
        (repeat' (first | (refine And.intro (by (first | omega | assumption | (simp only [nadd_eq]; omega) | (simp [nadd_eq]; omega))) ?_; conv => whnf) | (refine arI64 (by omega) (by omega) ?_; conv => whnf) | (refine arU32 (by omega) (by omega) ?_; conv => whnf) | (refine arU8 (by omega) (by omega) ?_; conv => whnf)))
        (refine fin_auto ?_; conv => whnf); refine ⟨rfl, rfl, rfl, int_fin ?_, (by repeat' (first | exact trivial | exact rfl | (intro _ _; exact rfl) | (intro _ hj; exact absurd hj (Nat.not_lt_zero _)) | exact Nat.le_refl _ | exact Or.inl (And.intro (fun h => h) rfl) | apply And.intro)), rfl⟩
        unfold aheadN
        rw [if_pos ⟨by omega, by omega, show k ((q : Int).toNat) = 2 by rw [Int.toNat_natCast]; omega⟩]
        rfl
def exK : Nat → Int
  | 0 => 1
  | 1 => 2
  | 2 => 4
  | 3 => 1
  | _ => 2
def exT : Nat → Int
  | 0 => 0
  | 1 => 0
  | 2 => 0
  | _ => 1
set_option maxHeartbeats 1000000 in
theorem awake_spec : FSpec Try.prog 6 [] 0 [] fun x h n => x = sBool true ∧ n = 0 ∧ h = [] := by
  have hT : ∀ i, i < 5 → inI (exT i) := fun i hi => by
    rcases (show i = 0 ∨ i = 1 ∨ i = 2 ∨ i = 3 ∨ i = 4 by omega) with rfl | rfl | rfl | rfl | rfl <;> exact ⟨by decide, by decide⟩
  have h4 := ahead_spec exK exT (fun _ => 0) (fun _ => false) 5 4 (by omega) hT
  have h1 := ahead_spec exK exT (fun _ => 0) (fun _ => false) 5 1 (by omega) hT
  have h3 := ahead_spec exK exT (fun _ => 0) (fun _ => false) 5 3 (by omega) hT
  have hl := longest_spec exK exT (fun _ => 0) (fun _ => false) 5 (by omega) hT
  rw [show aheadN exK exT 5 4 = 1 by decide +kernel] at h4
  rw [show aheadN exK exT 5 1 = 0 by decide +kernel] at h1
  rw [show aheadN exK exT 5 3 = -1 by decide +kernel] at h3
  rw [show mxN exK exT 5 = 2 by decide +kernel] at hl
  refine spec_of_ev Try.func6 ic6_eq (rs := [.t 0]) (by kernel_rfl) (by kernel_rfl) (by kernel_rfl) fun G hP hA => ?_
  unfold evF ic6
  conv => whnf
  (refine call_auto hP (h4) ?_; conv => whnf); refine ⟨⟨rfl, rfl, rfl, ?_, rfl, rfl⟩, ?_⟩
  · refine ⟨⟨rfl, Nat.le_refl _, fun i hi => ?_⟩, trivial⟩
    rcases (show i = 0 ∨ i = 1 ∨ i = 2 ∨ i = 3 ∨ i = 4 by omega) with rfl | rfl | rfl | rfl | rfl <;> rfl
  conv => whnf
  (refine call_auto hP (h1) ?_; conv => whnf); refine ⟨⟨rfl, rfl, rfl, ?_, rfl, rfl⟩, ?_⟩
  · refine ⟨⟨rfl, Nat.le_refl _, fun i hi => ?_⟩, trivial⟩
    rcases (show i = 0 ∨ i = 1 ∨ i = 2 ∨ i = 3 ∨ i = 4 by omega) with rfl | rfl | rfl | rfl | rfl <;> rfl
  conv => whnf
  (refine call_auto hP (h3) ?_; conv => whnf); refine ⟨⟨rfl, rfl, rfl, ?_, rfl, rfl⟩, ?_⟩
  · refine ⟨⟨rfl, Nat.le_refl _, fun i hi => ?_⟩, trivial⟩
    rcases (show i = 0 ∨ i = 1 ∨ i = 2 ∨ i = 3 ∨ i = 4 by omega) with rfl | rfl | rfl | rfl | rfl <;> rfl
  conv => whnf
  (refine call_auto hP (hl) ?_; conv => whnf); refine ⟨⟨rfl, rfl, rfl, ?_, rfl, rfl⟩, ?_⟩
  · refine ⟨⟨rfl, Nat.le_refl _, fun i hi => ?_⟩, trivial⟩
    rcases (show i = 0 ∨ i = 1 ∨ i = 2 ∨ i = 3 ∨ i = 4 by omega) with rfl | rfl | rfl | rfl | rfl <;> rfl
  conv => whnf
  (refine fin_auto ?_; conv => whnf); refine ⟨rfl, rfl, rfl, bool_fin ?_, (by repeat' (first | exact trivial | exact rfl | (intro _ _; exact rfl) | (intro _ hj; exact absurd hj (Nat.not_lt_zero _)) | exact Nat.le_refl _ | exact Or.inl (And.intro (fun h => h) rfl) | apply And.intro)), rfl⟩
  rfl
end Go.Proofs.Ytfkhaicghoiijac
