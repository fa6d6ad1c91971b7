/- AheadTells: the law's function. -/
import Derived.Test.YtfkhaicghoiijacBc
set_option linter.unusedSimpArgs false
set_option linter.unusedVariables false
namespace Go.Proofs.Ytfkhaicghoiijac
open Go Go.Sx

set_option maxRecDepth 8000 in
set_option maxHeartbeats 2000000 in
theorem atells_spec (k t : Nat → Int) (a : Nat → Int) (b : Nat → Bool) (m : Nat) (j : Int) (hm : m ≤ maxLen) (ht : ∀ i, i < m → inI (t i)) :
    FSpec Try.prog 4 [(0, some (.ro 4 m (entE k t a b)))] 1 [.l (.s 0 4 0 m 0), .l (.v (.int .i64 j))] fun x h n => x = sBool true := by
  unfold maxLen at hm
  refine FSpec.mono (Q := fun x h k => x = sBool true ∧ k = 1 ∧ h = []) ?_ fun x h k hx => hx.1
  refine spec_of_ev Try.func4 ic4_eq (rs := [.t 4]) (by kernel_rfl) (by kernel_rfl) (by kernel_rfl) fun G hP hA => ?_
  unfold evF ic4
  conv => whnf
  refine dsplit (fun h1 => ?_) (fun h1 => ?_)
  · conv => whnf
    (refine call_auto hP (awake_spec) ?_; conv => whnf); (refine ⟨⟨rfl, rfl, rfl, (by repeat' (first | exact trivial | exact rfl | (intro _ _; exact rfl) | (intro _ hj; exact absurd hj (Nat.not_lt_zero _)) | exact Nat.le_refl _ | exact Or.inl (And.intro (fun h => h) rfl) | apply And.intro)), rfl, rfl⟩, ?_⟩; conv => whnf)
    (refine fin_auto ?_; conv => whnf); exact ⟨rfl, rfl, rfl, rfl, (by repeat' (first | exact trivial | exact rfl | (intro _ _; exact rfl) | (intro _ hj; exact absurd hj (Nat.not_lt_zero _)) | exact Nat.le_refl _ | exact Or.inl (And.intro (fun h => h) rfl) | apply And.intro)), rfl⟩
  · obtain ⟨q, hq, hqm⟩ : ∃ q : Nat, (q : Int) = min (max j 0) m ∧ q ≤ m := ⟨(min (max j 0) m).toNat, by omega, by omega⟩
    have hrf := ref_spec k t a b m (by omega)
    have hqu := queue_spec k t a b q (by omega)
    have hin := inq_spec k t a b m j q hq (by omega) ht
    have hah := ahead_spec k t a b m j (by omega) ht
    have hql := quN_len k t q
    have hsz := qu_sz k t q
    rw [hsz] at hqu hin hql
    conv => whnf
    rw [← hq]
    (refine call_auto hP (hrf) ?_; conv => whnf); (refine ⟨⟨rfl, rfl, rfl, (by repeat' (first | exact trivial | exact rfl | (intro _ _; exact rfl) | (intro _ hj; exact absurd hj (Nat.not_lt_zero _)) | exact Nat.le_refl _ | exact Or.inl (And.intro (fun h => h) rfl) | apply And.intro)), rfl, rfl⟩, ?_⟩; conv => whnf)
    (repeat' (first | (refine And.intro (by (first | omega | assumption | (simp only [nadd_eq]; omega) | (simp [nadd_eq]; omega))) ?_; conv => whnf) | (refine arI64 (by omega) (by omega) ?_; conv => whnf) | (refine arU32 (by omega) (by omega) ?_; conv => whnf) | (refine arU8 (by omega) (by omega) ?_; conv => whnf)))
    (refine call_auto hP (hqu) ?_; conv => whnf); refine ⟨⟨rfl, rfl, rfl, ?_, rfl, rfl⟩, ?_⟩
    · exact And.intro (And.intro rfl (And.intro (show q ≤ m from hqm) fun i hi => rfl)) (by repeat' (first | exact trivial | exact rfl | (intro _ _; exact rfl) | (intro _ hj; exact absurd hj (Nat.not_lt_zero _)) | exact Nat.le_refl _ | exact Or.inl (And.intro (fun h => h) rfl) | apply And.intro))
    conv => whnf
    (refine call_auto hP (hin) ?_; conv => whnf); (refine ⟨⟨rfl, rfl, rfl, (by repeat' (first | exact trivial | exact rfl | (intro _ _; exact rfl) | (intro _ hj; exact absurd hj (Nat.not_lt_zero _)) | exact Nat.le_refl _ | exact Or.inl (And.intro (fun h => h) rfl) | apply And.intro)), rfl, rfl⟩, ?_⟩; conv => whnf)
    refine dsplit (fun h => absurd rfl h) (fun _ => ?_)
    conv => whnf
    refine loop_auto (α := Nat) (ds := []) (N := 4) (fun i => [(36, sInt .i64 (i : Int))]) [] (fun _ => [])
      (fun i => i ≤ szN k t q) (fun i => szN k t q - i) 0 (Nat.zero_le _) ?_ fun i hi => ?_
    · (conv => whnf); (refine imp_auto hA ?_; conv => whnf); exact ⟨rfl, rfl, rfl, (by repeat' (first | exact trivial | exact rfl | apply And.intro)), (by repeat' (first | exact trivial | exact rfl | (intro _ _; exact rfl) | (intro _ hj; exact absurd hj (Nat.not_lt_zero _)) | exact Nat.le_refl _ | exact Or.inl (And.intro (fun h => h) rfl) | apply And.intro)), rfl⟩
    · conv => whnf
      refine dsplit (fun h3 => ?_) (fun h3 => ?_)
      · conv => whnf
        (refine drawP_intro (by rw [hP]; exact follows) (by kernel_rfl) ?_; conv => whnf)
        (repeat' (first | (refine And.intro (by (first | omega | assumption | (simp only [nadd_eq]; omega) | (simp [nadd_eq]; omega))) ?_; conv => whnf) | (refine arI64 (by omega) (by omega) ?_; conv => whnf) | (refine arU32 (by omega) (by omega) ?_; conv => whnf) | (refine arU8 (by omega) (by omega) ?_; conv => whnf)))
        refine dsplit (fun h => absurd rfl h) (fun _ => ?_)
        conv => whnf
        (repeat' (first | (refine And.intro (by (first | omega | assumption | (simp only [nadd_eq]; omega) | (simp [nadd_eq]; omega))) ?_; conv => whnf) | (refine arI64 (by omega) (by omega) ?_; conv => whnf) | (refine arU32 (by omega) (by omega) ?_; conv => whnf) | (refine arU8 (by omega) (by omega) ?_; conv => whnf)))
        refine ⟨i + 1, by omega, by omega, ?_⟩
        (conv => whnf); (refine imp_auto hA ?_; conv => whnf); exact ⟨rfl, rfl, rfl, (by repeat' (first | exact trivial | exact rfl | apply And.intro)), (by repeat' (first | exact trivial | exact rfl | (intro _ _; exact rfl) | (intro _ hj; exact absurd hj (Nat.not_lt_zero _)) | exact Nat.le_refl _ | exact Or.inl (And.intro (fun h => h) rfl) | apply And.intro)), rfl⟩
      · obtain rfl : i = szN k t q := by omega
        by_cases hc : 0 ≤ j ∧ j < m ∧ k j.toNat = 2
        · obtain ⟨jj, rfl⟩ : ∃ jj : Nat, j = jj := ⟨j.toNat, by omega⟩
          obtain rfl : q = jj := by omega
          simp only [Int.toNat_natCast] at hc
          have hind := in_spec k t a b q (t q) (by omega)
          have hsome := ((law_inv k t q).2 (t q)).1
          have hA0 : aheadN k t m (q : Int) = ((mszd (mapN k t q) (t q) (szN k t q) : Nat) : Int) := by unfold aheadN; rw [Int.toNat_natCast, if_pos hc]
          have hA1 : inN k t q (t q) = true → aheadN k t m (q : Int) = (szN k t q : Int) - 1 := fun h => by
            have h7 : t q ∈ quN k t q := (qu_mem k t q (t q)).2 (by rw [hsome]; exact h)
            have h8 := List.length_pos_of_mem h7
            rw [hsz] at h8
            rw [hA0]
            unfold mszd
            rw [h] at hsome
            cases hM : mapN k t q (t q) with
            | none => rw [hM] at hsome; cases hsome
            | some x => simp only; omega
          have hA2 : inN k t q (t q) = false → aheadN k t m (q : Int) = (szN k t q : Int) := fun h => by
            rw [hA0]
            unfold mszd
            rw [h] at hsome
            cases hM : mapN k t q (t q) with
            | none => rfl
            | some x => rw [hM] at hsome; cases hsome
          conv => whnf
          (refine join_plain ?_; conv => whnf)
          refine dsplit (fun h4 => ?_) (fun h4 => absurd hc.2.1 h4)
          conv => whnf
          (repeat' (first | (refine And.intro (by (first | omega | assumption | (simp only [nadd_eq]; omega) | (simp [nadd_eq]; omega))) ?_; conv => whnf) | (refine arI64 (by omega) (by omega) ?_; conv => whnf) | (refine arU32 (by omega) (by omega) ?_; conv => whnf) | (refine arU8 (by omega) (by omega) ?_; conv => whnf)))
          refine dsplit (fun h5 => ?_) (fun h5 => absurd hc.2.2 h5)
          conv => whnf
          (refine drawP_intro (by rw [hP]; exact follows) (by kernel_rfl) ?_; conv => whnf)
          (repeat' (first | (refine And.intro (by (first | omega | assumption | (simp only [nadd_eq]; omega) | (simp [nadd_eq]; omega))) ?_; conv => whnf) | (refine arI64 (by omega) (by omega) ?_; conv => whnf) | (refine arU32 (by omega) (by omega) ?_; conv => whnf) | (refine arU8 (by omega) (by omega) ?_; conv => whnf)))
          (refine callD_auto hP (hind) ?_; conv => whnf); refine ⟨⟨rfl, rfl, rfl, ?_, rfl, rfl⟩, ?_⟩
          · exact And.intro (And.intro rfl (And.intro (show q ≤ m from hqm) fun i hi => rfl)) (by repeat' (first | exact trivial | exact rfl | (intro _ _; exact rfl) | (intro _ hj; exact absurd hj (Nat.not_lt_zero _)) | exact Nat.le_refl _ | exact Or.inl (And.intro (fun h => h) rfl) | apply And.intro))
          conv => whnf
          (repeat (refine And.intro (by (conv => whnf); first | exact ⟨rfl, rfl, rfl⟩ | (refine And.intro (by omega) ?_; (conv => whnf); exact ⟨rfl, rfl, rfl⟩)) ?_; conv => whnf))
          refine bsplit (fun h6 => ?_) (fun h6 => ?_)
          · rw [hA1 h6] at hah
            conv => whnf
            (repeat' (first | (refine And.intro (by (first | omega | assumption | (simp only [nadd_eq]; omega) | (simp [nadd_eq]; omega))) ?_; conv => whnf) | (refine arI64 (by omega) (by omega) ?_; conv => whnf) | (refine arU32 (by omega) (by omega) ?_; conv => whnf) | (refine arU8 (by omega) (by omega) ?_; conv => whnf)))
            (refine call_auto hP (hah) ?_; conv => whnf); (refine ⟨⟨rfl, rfl, rfl, (by repeat' (first | exact trivial | exact rfl | (intro _ _; exact rfl) | (intro _ hj; exact absurd hj (Nat.not_lt_zero _)) | exact Nat.le_refl _ | exact Or.inl (And.intro (fun h => h) rfl) | apply And.intro)), rfl, rfl⟩, ?_⟩; conv => whnf)
            refine dsplit (fun _ => ?_) (fun h => absurd rfl h)
            conv => whnf
            (refine call_auto hP (awake_spec) ?_; conv => whnf); (refine ⟨⟨rfl, rfl, rfl, (by repeat' (first | exact trivial | exact rfl | (intro _ _; exact rfl) | (intro _ hj; exact absurd hj (Nat.not_lt_zero _)) | exact Nat.le_refl _ | exact Or.inl (And.intro (fun h => h) rfl) | apply And.intro)), rfl, rfl⟩, ?_⟩; conv => whnf)
            (refine fin_auto ?_; conv => whnf); exact ⟨rfl, rfl, rfl, rfl, (by repeat' (first | exact trivial | exact rfl | (intro _ _; exact rfl) | (intro _ hj; exact absurd hj (Nat.not_lt_zero _)) | exact Nat.le_refl _ | exact Or.inl (And.intro (fun h => h) rfl) | apply And.intro)), rfl⟩
          · rw [hA2 h6] at hah
            conv => whnf
            (refine call_auto hP (hah) ?_; conv => whnf); (refine ⟨⟨rfl, rfl, rfl, (by repeat' (first | exact trivial | exact rfl | (intro _ _; exact rfl) | (intro _ hj; exact absurd hj (Nat.not_lt_zero _)) | exact Nat.le_refl _ | exact Or.inl (And.intro (fun h => h) rfl) | apply And.intro)), rfl, rfl⟩, ?_⟩; conv => whnf)
            refine dsplit (fun _ => ?_) (fun h => absurd rfl h)
            conv => whnf
            (refine call_auto hP (awake_spec) ?_; conv => whnf); (refine ⟨⟨rfl, rfl, rfl, (by repeat' (first | exact trivial | exact rfl | (intro _ _; exact rfl) | (intro _ hj; exact absurd hj (Nat.not_lt_zero _)) | exact Nat.le_refl _ | exact Or.inl (And.intro (fun h => h) rfl) | apply And.intro)), rfl, rfl⟩, ?_⟩; conv => whnf)
            (refine fin_auto ?_; conv => whnf); exact ⟨rfl, rfl, rfl, rfl, (by repeat' (first | exact trivial | exact rfl | (intro _ _; exact rfl) | (intro _ hj; exact absurd hj (Nat.not_lt_zero _)) | exact Nat.le_refl _ | exact Or.inl (And.intro (fun h => h) rfl) | apply And.intro)), rfl⟩
        · have hA3 : aheadN k t m j = -1 := if_neg hc
          rw [hA3] at hah
          conv => whnf
          (refine join_plain ?_; conv => whnf)
          refine dsplit (fun h4 => ?_) (fun h4 => ?_)
          · conv => whnf
            refine dsplit (fun h5 => ?_) (fun h5 => ?_)
            · conv => whnf
              (repeat' (first | (refine And.intro (by (first | omega | assumption | (simp only [nadd_eq]; omega) | (simp [nadd_eq]; omega))) ?_; conv => whnf) | (refine arI64 (by omega) (by omega) ?_; conv => whnf) | (refine arU32 (by omega) (by omega) ?_; conv => whnf) | (refine arU8 (by omega) (by omega) ?_; conv => whnf)))
              refine dsplit (fun h6 => absurd ⟨h4, h5, h6⟩ hc) (fun h6 => ?_)
              conv => whnf
              (refine call_auto hP (hah) ?_; conv => whnf); (refine ⟨⟨rfl, rfl, rfl, (by repeat' (first | exact trivial | exact rfl | (intro _ _; exact rfl) | (intro _ hj; exact absurd hj (Nat.not_lt_zero _)) | exact Nat.le_refl _ | exact Or.inl (And.intro (fun h => h) rfl) | apply And.intro)), rfl, rfl⟩, ?_⟩; conv => whnf)
              (refine call_auto hP (awake_spec) ?_; conv => whnf); (refine ⟨⟨rfl, rfl, rfl, (by repeat' (first | exact trivial | exact rfl | (intro _ _; exact rfl) | (intro _ hj; exact absurd hj (Nat.not_lt_zero _)) | exact Nat.le_refl _ | exact Or.inl (And.intro (fun h => h) rfl) | apply And.intro)), rfl, rfl⟩, ?_⟩; conv => whnf)
              (refine fin_auto ?_; conv => whnf); exact ⟨rfl, rfl, rfl, rfl, (by repeat' (first | exact trivial | exact rfl | (intro _ _; exact rfl) | (intro _ hj; exact absurd hj (Nat.not_lt_zero _)) | exact Nat.le_refl _ | exact Or.inl (And.intro (fun h => h) rfl) | apply And.intro)), rfl⟩
            · conv => whnf
              (refine call_auto hP (hah) ?_; conv => whnf); (refine ⟨⟨rfl, rfl, rfl, (by repeat' (first | exact trivial | exact rfl | (intro _ _; exact rfl) | (intro _ hj; exact absurd hj (Nat.not_lt_zero _)) | exact Nat.le_refl _ | exact Or.inl (And.intro (fun h => h) rfl) | apply And.intro)), rfl, rfl⟩, ?_⟩; conv => whnf)
              (refine call_auto hP (awake_spec) ?_; conv => whnf); (refine ⟨⟨rfl, rfl, rfl, (by repeat' (first | exact trivial | exact rfl | (intro _ _; exact rfl) | (intro _ hj; exact absurd hj (Nat.not_lt_zero _)) | exact Nat.le_refl _ | exact Or.inl (And.intro (fun h => h) rfl) | apply And.intro)), rfl, rfl⟩, ?_⟩; conv => whnf)
              (refine fin_auto ?_; conv => whnf); exact ⟨rfl, rfl, rfl, rfl, (by repeat' (first | exact trivial | exact rfl | (intro _ _; exact rfl) | (intro _ hj; exact absurd hj (Nat.not_lt_zero _)) | exact Nat.le_refl _ | exact Or.inl (And.intro (fun h => h) rfl) | apply And.intro)), rfl⟩
          · conv => whnf
            (refine call_auto hP (hah) ?_; conv => whnf); (refine ⟨⟨rfl, rfl, rfl, (by repeat' (first | exact trivial | exact rfl | (intro _ _; exact rfl) | (intro _ hj; exact absurd hj (Nat.not_lt_zero _)) | exact Nat.le_refl _ | exact Or.inl (And.intro (fun h => h) rfl) | apply And.intro)), rfl, rfl⟩, ?_⟩; conv => whnf)
            (refine call_auto hP (awake_spec) ?_; conv => whnf); (refine ⟨⟨rfl, rfl, rfl, (by repeat' (first | exact trivial | exact rfl | (intro _ _; exact rfl) | (intro _ hj; exact absurd hj (Nat.not_lt_zero _)) | exact Nat.le_refl _ | exact Or.inl (And.intro (fun h => h) rfl) | apply And.intro)), rfl, rfl⟩, ?_⟩; conv => whnf)
            (refine fin_auto ?_; conv => whnf); exact ⟨rfl, rfl, rfl, rfl, (by repeat' (first | exact trivial | exact rfl | (intro _ _; exact rfl) | (intro _ hj; exact absurd hj (Nat.not_lt_zero _)) | exact Nat.le_refl _ | exact Or.inl (And.intro (fun h => h) rfl) | apply And.intro)), rfl⟩
end Go.Proofs.Ytfkhaicghoiijac
