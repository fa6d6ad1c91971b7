/- SerialOrder: the walk. -/
import Derived.Test.YtfkhaicghoiijabSu
set_option linter.unusedSimpArgs false
namespace Go.Proofs.Ytfkhaicghoiijab
open Go Go.Sx

theorem ordN_get (k t : Nat → Int) (i : Nat) (h : k i = 4) : ∀ m, i < m → (ordN k t i).length < (ordN k t m).length ∧ (ordN k t m)[(ordN k t i).length]? = some (t i)
  | 0, hm => absurd hm (Nat.not_lt_zero _)
  | m + 1, hm => by
    by_cases him : i = m
    · subst him
      simp [ordN, h]
    · obtain ⟨h1, h2⟩ := ordN_get k t i h m (by omega)
      simp only [ordN]
      split
      · refine ⟨by simp; omega, ?_⟩
        rw [List.getElem?_append_left h1]; exact h2
      · exact ⟨h1, h2⟩
theorem sorder_spec (k t : Nat → Int) (a : Nat → Int) (b : Nat → Bool) (m : Nat) (hm : m ≤ maxLen) :
    FSpec Try.prog 6 [(0, some (.ro 4 m (entE k t a b)))] 1 [.l (.s 0 4 0 m 0)] fun x h n => x = sBool true := by
  unfold maxLen at hm
  refine FSpec.mono (Q := fun x h k => x = sBool true ∧ k = 1 ∧ h = []) ?_ fun x h k hx => hx.1
  refine spec_of_ev Try.func6 ic6_eq (rs := [.t 2]) (by kernel_rfl) (by kernel_rfl) (by kernel_rfl) fun G hP hA => ?_
  unfold evF ic6
  conv => whnf
  refine dsplit (fun h1 => ?_) (fun h1 => ?_)
  · conv => whnf
    (refine call_auto hP (awake_spec) ?_; conv => whnf); (refine ⟨⟨rfl, rfl, rfl, (by repeat' (first | exact trivial | exact rfl | (intro _ _; exact rfl) | (intro _ hj; exact absurd hj (Nat.not_lt_zero _)) | exact Nat.le_refl _ | exact Or.inl (And.intro (fun h => h) rfl) | apply And.intro)), rfl, rfl⟩, ?_⟩; conv => whnf)
    (refine fin_auto ?_; conv => whnf); exact ⟨rfl, rfl, rfl, rfl, (by repeat' (first | exact trivial | exact rfl | (intro _ _; exact rfl) | (intro _ hj; exact absurd hj (Nat.not_lt_zero _)) | exact Nat.le_refl _ | exact Or.inl (And.intro (fun h => h) rfl) | apply And.intro)), rfl⟩
  · conv => whnf
    have ho := order_spec k t a b m (by omega)
    obtain ⟨L, hL⟩ : ∃ L, L = ordN k t m := ⟨_, rfl⟩
    rw [← hL] at ho
    (refine call_auto hP (ho) ?_; conv => whnf); (refine ⟨⟨rfl, rfl, rfl, (by repeat' (first | exact trivial | exact rfl | (intro _ _; exact rfl) | (intro _ hj; exact absurd hj (Nat.not_lt_zero _)) | exact Nat.le_refl _ | exact Or.inl (And.intro (fun h => h) rfl) | apply And.intro)), rfl, rfl⟩, ?_⟩; conv => whnf)
    refine loop_auto (α := Nat) (ds := []) (N := 2) (fun i => [(3, sInt .i64 ((ordN k t i).length : Int)), (15, sInt .i64 (i : Int))]) [] (fun _ => [])
      (fun i => i ≤ m) (fun i => m - i) 0 (Nat.zero_le _) ?_ fun i hi => ?_
    · (conv => whnf); (refine imp_auto hA ?_; conv => whnf); exact ⟨rfl, rfl, rfl, (by repeat' (first | exact trivial | exact rfl | apply And.intro)), (by repeat' (first | exact trivial | exact rfl | (intro _ _; exact rfl) | (intro _ hj; exact absurd hj (Nat.not_lt_zero _)) | exact Nat.le_refl _ | exact Or.inl (And.intro (fun h => h) rfl) | apply And.intro)), rfl⟩
    · have hl := ordN_len k t i
      have hni : nadd 0 ((i : Nat) : Int).toNat = i := by simp [nadd_eq]
      conv => whnf
      refine dsplit (fun h2 => ?_) (fun h2 => ?_)
      · conv => whnf
        (refine join_plain ?_; conv => whnf)
        (repeat' (first | (refine And.intro (by (first | omega | (simp only [nadd_eq]; omega) | (simp [nadd_eq]; omega))) ?_; conv => whnf) | (refine arI64 (by omega) (by omega) ?_; conv => whnf) | (refine arU32 (by omega) (by omega) ?_; conv => whnf) | (refine arU8 (by omega) (by omega) ?_; conv => whnf)))
        rw [hni]
        refine dsplit (fun h3 => ?_) (fun h3 => ?_)
        · have ho : ordN k t (i + 1) = ordN k t i := by simp only [ordN, if_neg h3]
          conv => whnf
          (repeat' (first | (refine And.intro (by (first | omega | (simp only [nadd_eq]; omega) | (simp [nadd_eq]; omega))) ?_; conv => whnf) | (refine arI64 (by omega) (by omega) ?_; conv => whnf) | (refine arU32 (by omega) (by omega) ?_; conv => whnf) | (refine arU8 (by omega) (by omega) ?_; conv => whnf)))
          refine ⟨i + 1, by omega, by omega, ?_⟩
          rw [ho]
          (conv => whnf); (refine imp_auto hA ?_; conv => whnf); exact ⟨rfl, rfl, rfl, (by repeat' (first | exact trivial | exact rfl | apply And.intro)), (by repeat' (first | exact trivial | exact rfl | (intro _ _; exact rfl) | (intro _ hj; exact absurd hj (Nat.not_lt_zero _)) | exact Nat.le_refl _ | exact Or.inl (And.intro (fun h => h) rfl) | apply And.intro)), rfl⟩
        · replace h3 : k i = 4 := by omega
          obtain ⟨g1, g2⟩ := ordN_get k t i h3 m (by omega)
          rw [← hL] at g1 g2
          have hlen : (ordN k t (i + 1)).length = (ordN k t i).length + 1 := by simp [ordN, h3]
          have hg : L.getD (ordN k t i).length 0 = t i := by simp [g2]
          generalize hq : (ordN k t i).length = q at *
          have hnq : nadd 0 ((q : Nat) : Int).toNat = q := by simp [nadd_eq]
          conv => whnf
          (refine drawP_intro (by rw [hP]; exact follows) (by kernel_rfl) ?_; conv => whnf)
          refine dsplit (fun h4 => by omega) (fun h4 => ?_)
          conv => whnf
          (repeat' (first | (refine And.intro (by (first | omega | (simp only [nadd_eq]; omega) | (simp [nadd_eq]; omega))) ?_; conv => whnf) | (refine arI64 (by omega) (by omega) ?_; conv => whnf) | (refine arU32 (by omega) (by omega) ?_; conv => whnf) | (refine arU8 (by omega) (by omega) ?_; conv => whnf)))
          rw [hnq]
          refine dsplit (fun h5 => absurd hg h5) (fun h5 => ?_)
          conv => whnf
          (repeat' (first | (refine And.intro (by (first | omega | (simp only [nadd_eq]; omega) | (simp [nadd_eq]; omega))) ?_; conv => whnf) | (refine arI64 (by omega) (by omega) ?_; conv => whnf) | (refine arU32 (by omega) (by omega) ?_; conv => whnf) | (refine arU8 (by omega) (by omega) ?_; conv => whnf)))
          refine ⟨i + 1, by omega, by omega, ?_⟩
          rw [hlen]
          (conv => whnf); (refine imp_auto hA ?_; conv => whnf); exact ⟨rfl, rfl, rfl, (by repeat' (first | exact trivial | exact rfl | apply And.intro)), (by repeat' (first | exact trivial | exact rfl | (intro _ _; exact rfl) | (intro _ hj; exact absurd hj (Nat.not_lt_zero _)) | exact Nat.le_refl _ | exact Or.inl (And.intro (fun h => h) rfl) | apply And.intro)), rfl⟩
      · obtain rfl : i = m := by omega
        conv => whnf
        rw [← hL]
        refine dsplit (fun _ => ?_) (fun h => absurd rfl h)
        conv => whnf
        (refine call_auto hP (awake_spec) ?_; conv => whnf); (refine ⟨⟨rfl, rfl, rfl, (by repeat' (first | exact trivial | exact rfl | (intro _ _; exact rfl) | (intro _ hj; exact absurd hj (Nat.not_lt_zero _)) | exact Nat.le_refl _ | exact Or.inl (And.intro (fun h => h) rfl) | apply And.intro)), rfl, rfl⟩, ?_⟩; conv => whnf)
        (refine fin_auto ?_; conv => whnf); exact ⟨rfl, rfl, rfl, rfl, (by repeat' (first | exact trivial | exact rfl | (intro _ _; exact rfl) | (intro _ hj; exact absurd hj (Nat.not_lt_zero _)) | exact Nat.le_refl _ | exact Or.inl (And.intro (fun h => h) rfl) | apply And.intro)), rfl⟩
end Go.Proofs.Ytfkhaicghoiijab
