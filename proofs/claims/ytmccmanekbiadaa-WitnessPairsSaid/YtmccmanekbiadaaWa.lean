/- Witness*: until; Depth. -/
import Derived.Test.YtmccmanekbiadaaKg
set_option linter.unusedSimpArgs false
set_option linter.unusedVariables false
namespace Go.Proofs.Ytmccmanekbiadaa
open Go Go.Sx

def entE (k t : Nat → Int) (a : Nat → Int) (b : Nat → Bool) : Nat → List Value := fun i => [.int .i64 (k i), .int .i64 (t i), .int .i64 (a i), .bool (b i)]
/-- The first place at or behind m - d, ahead of m, where p is true; m: there is none. -/
def untilG (p : Nat → Bool) (m : Nat) : Nat → Nat
  | 0 => m
  | d + 1 => if p (m - (d + 1)) then m - (d + 1) else untilG p m d
def untilF (p : Nat → Bool) (m j : Nat) : Nat := untilG p m (m - j)
theorem until_hit {p : Nat → Bool} {m j : Nat} (hj : j < m) (hp : p j = true) : untilF p m j = j := by
  obtain ⟨d, rfl⟩ : ∃ d, m = j + (d + 1) := ⟨m - j - 1, by omega⟩
  unfold untilF
  rw [show j + (d + 1) - j = d + 1 by omega, untilG, show j + (d + 1) - (d + 1) = j by omega, if_pos hp]
theorem until_miss {p : Nat → Bool} {m j : Nat} (hj : j < m) (hp : p j = false) : untilF p m j = untilF p m (j + 1) := by
  obtain ⟨d, rfl⟩ : ∃ d, m = j + (d + 1) := ⟨m - j - 1, by omega⟩
  unfold untilF
  rw [show j + (d + 1) - j = d + 1 by omega, untilG, show j + (d + 1) - (d + 1) = j by omega, if_neg (by simp [hp]), show j + (d + 1) - (j + 1) = d by omega]
theorem until_end (p : Nat → Bool) (m : Nat) : untilF p m m = m := by
  unfold untilF
  rw [Nat.sub_self]; rfl
theorem until_le (p : Nat → Bool) (m : Nat) : ∀ j, untilF p m j ≤ m := by
  have : ∀ d, untilG p m d ≤ m := by
    intro d
    induction d with
    | zero => exact Nat.le_refl _
    | succ d ih =>
      unfold untilG
      split
      · omega
      · exact ih
  exact fun j => this _
def hitB (k t : Nat → Int) (v a b : Int) (j : Nat) : Bool := decide (t j = v) && (decide (k j = a) || decide (k j = b))
theorem until_spec (k t a : Nat → Int) (b : Nat → Bool) (m i : Nat) (v x y : Int) (hm : m ≤ 1000) (hi : i < m) :
    FSpec Try.prog 73 [(0, some (.ro 4 m (entE k t a b)))] 1 [.l (.s 0 4 0 m 0), .l (.v (.int .i64 (i : Int))), .l (.v (.int .i64 v)), .l (.v (.int .i64 x)), .l (.v (.int .i64 y))] fun r h n =>
      r = sInt .i64 ((untilF (hitB k t v x y) m (i + 1) : Nat) : Int) ∧ n = 1 ∧ h = [] := by
  refine spec_of_ev Try.func73 ic73_eq (rs := [.t 10]) (by kernel_rfl) (by kernel_rfl) (by kernel_rfl) fun G hP hA => ?_
  unfold evF ic73
  conv => whnf
  (repeat' (first | (refine And.intro (by (first | omega | assumption | (simp only [nadd_eq]; omega) | (simp [nadd_eq]; omega))) ?_; conv => whnf) | (refine arI64 (by omega) (by omega) ?_; conv => whnf) | (refine arU32 (by omega) (by omega) ?_; conv => whnf) | (refine arU8 (by omega) (by omega) ?_; conv => whnf)))
  refine loop_auto (α := Nat) (ds := []) (N := 1) (fun j => [(11, sInt .i64 (j : Int))]) [] (fun _ => [])
    (fun j => (i + 1 ≤ j ∧ j ≤ m) ∧ untilF (hitB k t v x y) m (i + 1) = untilF (hitB k t v x y) m j) (fun j => m - j) (i + 1) ⟨⟨Nat.le_refl _, hi⟩, rfl⟩ ?_ fun j hj => ?_
  · (conv => whnf); (refine imp_auto hA ?_; conv => whnf); exact ⟨rfl, rfl, rfl, (by repeat' (first | exact trivial | exact rfl | apply And.intro)), (by repeat' (first | exact trivial | exact rfl | (intro _ _; exact rfl) | (intro _ hj; exact absurd hj (Nat.not_lt_zero _)) | exact Nat.le_refl _ | exact Or.inl (Or.inl (And.intro (fun h => h) rfl)) | exact Or.inl rfl | apply And.intro)), rfl⟩
  · obtain ⟨hj, he⟩ := hj
    have hnj : nadd 0 ((j : Nat) : Int).toNat = j := by simp [nadd_eq]
    rw [he]
    conv => whnf
    refine dsplit (fun h1 => ?_) (fun h1 => ?_)
    · conv => whnf
      (repeat' (first | (refine And.intro (by (first | omega | assumption | (simp only [nadd_eq]; omega) | (simp [nadd_eq]; omega))) ?_; conv => whnf) | (refine arI64 (by omega) (by omega) ?_; conv => whnf) | (refine arU32 (by omega) (by omega) ?_; conv => whnf) | (refine arU8 (by omega) (by omega) ?_; conv => whnf)))
      rw [hnj]
      conv => whnf
      refine dsplit (fun h2 => ?_) (fun h2 => ?_)
      · conv => whnf
        (repeat' (first | (refine And.intro (by (first | omega | assumption | (simp only [nadd_eq]; omega) | (simp [nadd_eq]; omega))) ?_; conv => whnf) | (refine arI64 (by omega) (by omega) ?_; conv => whnf) | (refine arU32 (by omega) (by omega) ?_; conv => whnf) | (refine arU8 (by omega) (by omega) ?_; conv => whnf)))
        rw [hnj]
        conv => whnf
        refine dsplit (fun h3 => ?_) (fun h3 => ?_)
        · have hh : hitB k t v x y j = true := by unfold hitB; rw [decide_eq_true h2, decide_eq_true h3]; rfl
          rw [until_hit (by omega) hh]
          conv => whnf
          (refine fin_auto ?_; conv => whnf); exact ⟨rfl, rfl, rfl, rfl, (by repeat' (first | exact trivial | exact rfl | (intro _ _; exact rfl) | (intro _ hj; exact absurd hj (Nat.not_lt_zero _)) | exact Nat.le_refl _ | exact Or.inl (Or.inl (And.intro (fun h => h) rfl)) | exact Or.inl rfl | apply And.intro)), rfl⟩
        · conv => whnf
          (repeat' (first | (refine And.intro (by (first | omega | assumption | (simp only [nadd_eq]; omega) | (simp [nadd_eq]; omega))) ?_; conv => whnf) | (refine arI64 (by omega) (by omega) ?_; conv => whnf) | (refine arU32 (by omega) (by omega) ?_; conv => whnf) | (refine arU8 (by omega) (by omega) ?_; conv => whnf)))
          rw [hnj]
          conv => whnf
          refine dsplit (fun h4 => ?_) (fun h4 => ?_)
          · have hh : hitB k t v x y j = true := by unfold hitB; rw [decide_eq_true h2, decide_eq_true h4, Bool.or_true]; rfl
            rw [until_hit (by omega) hh]
            conv => whnf
            (refine fin_auto ?_; conv => whnf); exact ⟨rfl, rfl, rfl, rfl, (by repeat' (first | exact trivial | exact rfl | (intro _ _; exact rfl) | (intro _ hj; exact absurd hj (Nat.not_lt_zero _)) | exact Nat.le_refl _ | exact Or.inl (Or.inl (And.intro (fun h => h) rfl)) | exact Or.inl rfl | apply And.intro)), rfl⟩
          · have hh : hitB k t v x y j = false := by unfold hitB; rw [decide_eq_false h3, decide_eq_false h4, Bool.or_false, Bool.and_false]
            rw [until_miss (by omega) hh]
            conv => whnf
            (repeat' (first | (refine And.intro (by (first | omega | assumption | (simp only [nadd_eq]; omega) | (simp [nadd_eq]; omega))) ?_; conv => whnf) | (refine arI64 (by omega) (by omega) ?_; conv => whnf) | (refine arU32 (by omega) (by omega) ?_; conv => whnf) | (refine arU8 (by omega) (by omega) ?_; conv => whnf)))
            refine ⟨j + 1, ⟨by omega, rfl⟩, by omega, ?_⟩
            (conv => whnf); (refine imp_auto hA ?_; conv => whnf); exact ⟨rfl, rfl, rfl, (by repeat' (first | exact trivial | exact rfl | apply And.intro)), (by repeat' (first | exact trivial | exact rfl | (intro _ _; exact rfl) | (intro _ hj; exact absurd hj (Nat.not_lt_zero _)) | exact Nat.le_refl _ | exact Or.inl (Or.inl (And.intro (fun h => h) rfl)) | exact Or.inl rfl | apply And.intro)), rfl⟩
      · have hh : hitB k t v x y j = false := by unfold hitB; rw [decide_eq_false h2]; rfl
        rw [until_miss (by omega) hh]
        conv => whnf
        (repeat' (first | (refine And.intro (by (first | omega | assumption | (simp only [nadd_eq]; omega) | (simp [nadd_eq]; omega))) ?_; conv => whnf) | (refine arI64 (by omega) (by omega) ?_; conv => whnf) | (refine arU32 (by omega) (by omega) ?_; conv => whnf) | (refine arU8 (by omega) (by omega) ?_; conv => whnf)))
        refine ⟨j + 1, ⟨by omega, rfl⟩, by omega, ?_⟩
        (conv => whnf); (refine imp_auto hA ?_; conv => whnf); exact ⟨rfl, rfl, rfl, (by repeat' (first | exact trivial | exact rfl | apply And.intro)), (by repeat' (first | exact trivial | exact rfl | (intro _ _; exact rfl) | (intro _ hj; exact absurd hj (Nat.not_lt_zero _)) | exact Nat.le_refl _ | exact Or.inl (Or.inl (And.intro (fun h => h) rfl)) | exact Or.inl rfl | apply And.intro)), rfl⟩
    · obtain rfl : j = m := by omega
      rw [until_end]
      conv => whnf
      (refine fin_auto ?_; conv => whnf); exact ⟨rfl, rfl, rfl, rfl, (by repeat' (first | exact trivial | exact rfl | (intro _ _; exact rfl) | (intro _ hj; exact absurd hj (Nat.not_lt_zero _)) | exact Nat.le_refl _ | exact Or.inl (Or.inl (And.intro (fun h => h) rfl)) | exact Or.inl rfl | apply And.intro)), rfl⟩
theorem depth_spec (x y : Int) (hx : x = 3) : FSpec Try.prog 55 [] 0 [.l (.v (.int .i64 x)), .l (.v (.int .i64 y))] fun r h n => r = sInt .i64 2 ∧ n = 0 ∧ h = [] := by
  subst hx
  refine spec_of_ev Try.func55 ic55_eq (rs := [.t 4]) (by kernel_rfl) (by kernel_rfl) (by kernel_rfl) fun G hP hA => ?_
  unfold evF ic55
  conv => whnf
  (repeat' (first | (refine join_plain ?_; conv => whnf) | (refine dsplit (fun _ => ?_) (fun _ => ?_) <;> conv => whnf)))
  (refine fin_auto ?_; conv => whnf); exact ⟨rfl, rfl, rfl, rfl, (by repeat' (first | exact trivial | exact rfl | (intro _ _; exact rfl) | (intro _ hj; exact absurd hj (Nat.not_lt_zero _)) | exact Nat.le_refl _ | exact Or.inl (Or.inl (And.intro (fun h => h) rfl)) | exact Or.inl rfl | apply And.intro)), rfl⟩
theorem Depth3_spec (h : Nat → Int) (m : Nat) (start slots pool budget glob loc : Int) (hm : 1 ≤ m ∧ m ≤ 64) (hb : anyZ badH h m = false) :
    FSpec Try.prog 22 [(0, some (.ro 1 m (numE h)))] 1 [confA 3 0 m start slots pool budget glob loc] fun x h' k => x = sInt .i64 2 ∧ k = 1 ∧ h' = [] := by
  have hbn := buildNew3_ok h m start slots pool budget glob loc hm hb
  have hd := depth_spec 3 pool rfl
  refine spec_of_ev Try.func22 ic22_eq (rs := [.t 2]) (by kernel_rfl) (by kernel_rfl) (by kernel_rfl) fun G hP hA => ?_
  unfold evF ic22
  conv => whnf
  (refine call_auto hP (hbn) ?_; conv => whnf); (refine ⟨⟨rfl, rfl, rfl, (by repeat' (first | exact trivial | exact rfl | (intro _ _; exact rfl) | (intro _ hj; exact absurd hj (Nat.not_lt_zero _)) | exact Nat.le_refl _ | exact Or.inl (Or.inl (And.intro (fun h => h) rfl)) | exact Or.inl rfl | apply And.intro)), rfl, rfl⟩, ?_⟩; conv => whnf)
  (refine call_auto hP (hd) ?_; conv => whnf); (refine ⟨⟨rfl, rfl, rfl, (by repeat' (first | exact trivial | exact rfl | (intro _ _; exact rfl) | (intro _ hj; exact absurd hj (Nat.not_lt_zero _)) | exact Nat.le_refl _ | exact Or.inl (Or.inl (And.intro (fun h => h) rfl)) | exact Or.inl rfl | apply And.intro)), rfl, rfl⟩, ?_⟩; conv => whnf)
  (refine fin_auto ?_; conv => whnf); exact ⟨rfl, rfl, rfl, rfl, (by repeat' (first | exact trivial | exact rfl | (intro _ _; exact rfl) | (intro _ hj; exact absurd hj (Nat.not_lt_zero _)) | exact Nat.le_refl _ | exact Or.inl (Or.inl (And.intro (fun h => h) rfl)) | exact Or.inl rfl | apply And.intro)), rfl⟩
end Go.Proofs.Ytmccmanekbiadaa
