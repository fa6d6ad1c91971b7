/- EventParts: the law's walk. -/
import Derived.Test.YtfkhaicghoiijaaEfLaw
namespace Go.Proofs.Ytfkhaicghoiijaa
open Go Go.Sx

theorem bytes_appL (A B : List Nat) : ∀ j, j < A.length + B.length → (if j < A.length then bytesE A j else bytesE B (nadd 0 (j - A.length))) = bytesE (A ++ B) j := fun j hj => by
  by_cases h : j < A.length
  · simp [h, bytesE, List.getElem?_append_left h]
  · simp [h, bytesE, nadd_eq, List.getElem?_append_right (Nat.le_of_not_lt h)]
theorem parts_get (f : Nat → Ev) (m : Nat) (D : List Ev) (i : Nat) (d : Ev) : ((List.range m).map f ++ D).getD i d = if i < m then f i else D.getD (i - m) d := by
  by_cases h : i < m
  · simp [h, List.getElem?_append_left]
  · simp [h, List.getElem?_append_right (show ((List.range m).map f).length ≤ i by simp; omega)]
set_option maxRecDepth 20000 in
theorem parts_spec (f : Nat → Ev) (m : Nat) (B : List Nat) (hb : ∀ b ∈ B, b < 256) (hB : B.length ≤ maxLen) (hm : m ≤ maxLen) :
    FSpec Try.prog 5 [(0, some (.ro 3 m (evsE f))), (1, some (.ro 1 B.length (bytesE B)))] 2 [.l (.s 0 3 0 m 0), .l (.s 1 1 0 B.length 0)] fun x _ _ => x = sBool true := by
  unfold maxLen at hB hm
  refine FSpec.mono (Q := fun x h k => x = sBool true ∧ k = 2 ∧ h = []) ?_ fun x h k hx => hx.1
  refine spec_of_ev Try.func5 ic5_eq (rs := [.t 4]) (by kernel_rfl) (by kernel_rfl) (by kernel_rfl) fun G hP hA => ?_
  have haw := evAwake_spec
  obtain ⟨i0, hi0, hr, hw⟩ := first_wrong f m
  unfold evF ic5
  conv => whnf
  refine dsplit (fun h5 => ?_) (fun h5 => ?_)
  · conv => whnf
    (refine call_auto hP (haw) ?_; conv => whnf); (refine ⟨⟨rfl, rfl, rfl, (by repeat' (first | exact trivial | exact rfl | (intro _ _; exact rfl) | (intro _ hj; exact absurd hj (Nat.not_lt_zero _)) | exact Nat.le_refl _ | exact Or.inl (And.intro (fun h => h) rfl) | apply And.intro)), rfl, rfl⟩, ?_⟩; conv => whnf)
    (refine fin_auto ?_; conv => whnf); exact ⟨rfl, rfl, rfl, rfl, (by repeat' (first | exact trivial | exact rfl | (intro _ _; exact rfl) | (intro _ hj; exact absurd hj (Nat.not_lt_zero _)) | exact Nat.le_refl _ | exact Or.inl (And.intro (fun h => h) rfl) | apply And.intro)), rfl⟩
  · conv => whnf
    refine dsplit (fun h6 => ?_) (fun h6 => ?_)
    · conv => whnf
      (refine call_auto hP (haw) ?_; conv => whnf); (refine ⟨⟨rfl, rfl, rfl, (by repeat' (first | exact trivial | exact rfl | (intro _ _; exact rfl) | (intro _ hj; exact absurd hj (Nat.not_lt_zero _)) | exact Nat.le_refl _ | exact Or.inl (And.intro (fun h => h) rfl) | apply And.intro)), rfl, rfl⟩, ?_⟩; conv => whnf)
      (refine fin_auto ?_; conv => whnf); exact ⟨rfl, rfl, rfl, rfl, (by repeat' (first | exact trivial | exact rfl | (intro _ _; exact rfl) | (intro _ hj; exact absurd hj (Nat.not_lt_zero _)) | exact Nat.le_refl _ | exact Or.inl (And.intro (fun h => h) rfl) | apply And.intro)), rfl⟩
    · have hes := enc_spec f m i0 (by omega) hi0 hr hw
      by_cases him : i0 = m
      · rw [if_pos him, if_pos him, if_pos him] at hes
        subst him
        obtain ⟨A, hA1⟩ : ∃ A, A = encN f i0 := ⟨_, rfl⟩
        have hAl : A.length ≤ 200 := by rw [hA1]; have := encN_len f i0; omega
        have hAb : ∀ b ∈ A, b < 256 := by rw [hA1]; exact encN_lt i0 hr
        have hd1 := dec_spec (A ++ B) (by rw [List.length_append]; omega) (fun b hb1 => by
          rcases List.mem_append.1 hb1 with h | h
          · exact hAb b h
          · exact hb b h)
        have hd2 := dec_spec B (by omega) hb
        obtain ⟨D, hD⟩ : ∃ D, D = dec B := ⟨_, rfl⟩
        obtain ⟨E, hE⟩ : ∃ E, E = dec (A ++ B) := ⟨_, rfl⟩
        have hED : E = (List.range i0).map f ++ D := by rw [hE, hA1, hD]; exact dec_encN f B i0 hr
        have hDl : D.length ≤ 100 := by rw [hD]; have := dec_len B; omega
        have hEl : E.length = i0 + D.length := by rw [hED]; simp
        rw [← hE, hEl, List.length_append] at hd1
        rw [← hD] at hd2
        rw [← hA1] at hes
        conv => whnf
        (refine call_auto hP (hes) ?_; conv => whnf); (refine ⟨⟨rfl, rfl, rfl, (by repeat' (first | exact trivial | exact rfl | (intro _ _; exact rfl) | (intro _ hj; exact absurd hj (Nat.not_lt_zero _)) | exact Nat.le_refl _ | exact Or.inl (And.intro (fun h => h) rfl) | apply And.intro)), rfl, rfl⟩, ?_⟩; conv => whnf)
        (repeat' (first | (refine And.intro (by (first | omega | (simp only [nadd_eq]; omega) | (simp [nadd_eq]; omega))) ?_; conv => whnf) | (refine arI64 (by omega) (by omega) ?_; conv => whnf) | (refine arU32 (by omega) (by omega) ?_; conv => whnf) | (refine arU8 (by omega) (by omega) ?_; conv => whnf)))
        (refine call_auto hP (hd1) ?_; conv => whnf); refine ⟨⟨rfl, rfl, rfl, ?_, rfl, rfl⟩, ?_⟩
        · refine And.intro (And.intro rfl (And.intro (Nat.le_refl _) fun j hj => ?_)) trivial
          exact bytes_appL A B j hj
        conv => whnf
        (refine call_auto hP (hd2) ?_; conv => whnf); (refine ⟨⟨rfl, rfl, rfl, (by repeat' (first | exact trivial | exact rfl | (intro _ _; exact rfl) | (intro _ hj; exact absurd hj (Nat.not_lt_zero _)) | exact Nat.le_refl _ | exact Or.inl (And.intro (fun h => h) rfl) | apply And.intro)), rfl, rfl⟩, ?_⟩; conv => whnf)
        (repeat' (first | (refine And.intro (by (first | omega | (simp only [nadd_eq]; omega) | (simp [nadd_eq]; omega))) ?_; conv => whnf) | (refine arI64 (by omega) (by omega) ?_; conv => whnf) | (refine arU32 (by omega) (by omega) ?_; conv => whnf) | (refine arU8 (by omega) (by omega) ?_; conv => whnf)))
        refine dsplit (fun h => absurd rfl h) (fun _ => ?_)
        conv => whnf
        refine loop_auto (α := Nat) (ds := []) (N := 6) (fun j => [(46, sInt .i64 (j : Int))]) [] (fun _ => []) (fun j => j ≤ i0 + D.length) (fun j => i0 + D.length - j) 0 (Nat.zero_le _) ?_ fun j hj => ?_
        · (conv => whnf); (refine imp_auto hA ?_; conv => whnf); exact ⟨rfl, rfl, rfl, (by repeat' (first | exact trivial | exact rfl | apply And.intro)), (by repeat' (first | exact trivial | exact rfl | (intro _ _; exact rfl) | (intro _ hj; exact absurd hj (Nat.not_lt_zero _)) | exact Nat.le_refl _ | exact Or.inl (And.intro (fun h => h) rfl) | apply And.intro)), rfl⟩
        · conv => whnf
          refine dsplit (fun h1 => ?_) (fun h1 => ?_)
          · have hnj : nadd 0 ((j : Nat) : Int).toNat = j := by simp [nadd_eq]
            have hEj := parts_get f i0 D j ⟨0, 0, 0⟩
            rw [← hED] at hEj
            conv => whnf
            (repeat' (first | (refine And.intro (by (first | omega | (simp only [nadd_eq]; omega) | (simp [nadd_eq]; omega))) ?_; conv => whnf) | (refine arI64 (by omega) (by omega) ?_; conv => whnf) | (refine arU32 (by omega) (by omega) ?_; conv => whnf) | (refine arU8 (by omega) (by omega) ?_; conv => whnf)))
            (refine drawP_intro (by rw [hP]; exact follows) (by kernel_rfl) ?_; conv => whnf)
            refine dsplit (fun h2 => ?_) (fun h2 => ?_)
            · have hji : j < i0 := by omega
              rw [if_pos hji] at hEj
              have hev : (decide ((f j).k = (f j).k) && (decide ((f j).t = (f j).t) && decide ((f j).w = (f j).w))) = true := by simp
              conv => whnf
              (repeat' (first | (refine And.intro (by (first | omega | (simp only [nadd_eq]; omega) | (simp [nadd_eq]; omega))) ?_; conv => whnf) | (refine arI64 (by omega) (by omega) ?_; conv => whnf) | (refine arU32 (by omega) (by omega) ?_; conv => whnf) | (refine arU8 (by omega) (by omega) ?_; conv => whnf)))
              rw [hnj, hEj, hev]
              conv => whnf
              refine dsplit (fun h3 => by omega) (fun _ => ?_)
              conv => whnf
              (repeat' (first | (refine And.intro (by (first | omega | (simp only [nadd_eq]; omega) | (simp [nadd_eq]; omega))) ?_; conv => whnf) | (refine arI64 (by omega) (by omega) ?_; conv => whnf) | (refine arU32 (by omega) (by omega) ?_; conv => whnf) | (refine arU8 (by omega) (by omega) ?_; conv => whnf)))
              refine ⟨j + 1, by omega, by omega, ?_⟩
              (conv => whnf); (refine imp_auto hA ?_; conv => whnf); exact ⟨rfl, rfl, rfl, (by repeat' (first | exact trivial | exact rfl | apply And.intro)), (by repeat' (first | exact trivial | exact rfl | (intro _ _; exact rfl) | (intro _ hj; exact absurd hj (Nat.not_lt_zero _)) | exact Nat.le_refl _ | exact Or.inl (And.intro (fun h => h) rfl) | apply And.intro)), rfl⟩
            · have hji : ¬ j < i0 := by omega
              rw [if_neg hji] at hEj
              obtain ⟨y, hy⟩ : ∃ y, y = D.getD (j - i0) ⟨0, 0, 0⟩ := ⟨_, rfl⟩
              rw [← hy] at hEj
              have hev : (decide (y.k = y.k) && (decide (y.t = y.t) && decide (y.w = y.w))) = true := by simp
              have hnj2 : nadd 0 ((j : Int) - (i0 : Int)).toNat = j - i0 := by simp [nadd_eq]
              conv => whnf
              refine dsplit (fun _ => ?_) (fun h3 => by omega)
              conv => whnf
              (repeat' (first | (refine And.intro (by (first | omega | (simp only [nadd_eq]; omega) | (simp [nadd_eq]; omega))) ?_; conv => whnf) | (refine arI64 (by omega) (by omega) ?_; conv => whnf) | (refine arU32 (by omega) (by omega) ?_; conv => whnf) | (refine arU8 (by omega) (by omega) ?_; conv => whnf)))
              rw [hnj, hEj, hnj2, ← hy, hev]
              conv => whnf
              (repeat' (first | (refine And.intro (by (first | omega | (simp only [nadd_eq]; omega) | (simp [nadd_eq]; omega))) ?_; conv => whnf) | (refine arI64 (by omega) (by omega) ?_; conv => whnf) | (refine arU32 (by omega) (by omega) ?_; conv => whnf) | (refine arU8 (by omega) (by omega) ?_; conv => whnf)))
              refine ⟨j + 1, by omega, by omega, ?_⟩
              (conv => whnf); (refine imp_auto hA ?_; conv => whnf); exact ⟨rfl, rfl, rfl, (by repeat' (first | exact trivial | exact rfl | apply And.intro)), (by repeat' (first | exact trivial | exact rfl | (intro _ _; exact rfl) | (intro _ hj; exact absurd hj (Nat.not_lt_zero _)) | exact Nat.le_refl _ | exact Or.inl (And.intro (fun h => h) rfl) | apply And.intro)), rfl⟩
          · conv => whnf
            (refine call_auto hP (haw) ?_; conv => whnf); (refine ⟨⟨rfl, rfl, rfl, (by repeat' (first | exact trivial | exact rfl | (intro _ _; exact rfl) | (intro _ hj; exact absurd hj (Nat.not_lt_zero _)) | exact Nat.le_refl _ | exact Or.inl (And.intro (fun h => h) rfl) | apply And.intro)), rfl, rfl⟩, ?_⟩; conv => whnf)
            (refine fin_auto ?_; conv => whnf); exact ⟨rfl, rfl, rfl, rfl, (by repeat' (first | exact trivial | exact rfl | (intro _ _; exact rfl) | (intro _ hj; exact absurd hj (Nat.not_lt_zero _)) | exact Nat.le_refl _ | exact Or.inl (And.intro (fun h => h) rfl) | apply And.intro)), rfl⟩
      · rw [if_neg him, if_neg him, if_neg him] at hes
        conv => whnf
        (refine call_auto hP (hes) ?_; conv => whnf); (refine ⟨⟨rfl, rfl, rfl, (by repeat' (first | exact trivial | exact rfl | (intro _ _; exact rfl) | (intro _ hj; exact absurd hj (Nat.not_lt_zero _)) | exact Nat.le_refl _ | exact Or.inl (And.intro (fun h => h) rfl) | apply And.intro)), rfl, rfl⟩, ?_⟩; conv => whnf)
        (refine call_auto hP (haw) ?_; conv => whnf); (refine ⟨⟨rfl, rfl, rfl, (by repeat' (first | exact trivial | exact rfl | (intro _ _; exact rfl) | (intro _ hj; exact absurd hj (Nat.not_lt_zero _)) | exact Nat.le_refl _ | exact Or.inl (And.intro (fun h => h) rfl) | apply And.intro)), rfl, rfl⟩, ?_⟩; conv => whnf)
        (refine fin_auto ?_; conv => whnf); exact ⟨rfl, rfl, rfl, rfl, (by repeat' (first | exact trivial | exact rfl | (intro _ _; exact rfl) | (intro _ hj; exact absurd hj (Nat.not_lt_zero _)) | exact Nat.le_refl _ | exact Or.inl (And.intro (fun h => h) rfl) | apply And.intro)), rfl⟩
end Go.Proofs.Ytfkhaicghoiijaa
