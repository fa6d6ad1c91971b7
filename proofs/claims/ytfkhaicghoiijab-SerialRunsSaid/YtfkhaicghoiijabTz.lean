/- SerialRuns: the walk. -/
import Derived.Test.YtfkhaicghoiijabTv
set_option linter.unusedSimpArgs false
set_option linter.unusedVariables false
namespace Go.Proofs.Ytfkhaicghoiijab
open Go Go.Sx

theorem smallB_out {b : Jb} (h : smallB b = true) : b.n ≤ 12 ∧ (∀ t, t < b.n → ∀ j, j < b.nj t → b.nd t j ≤ 70) ∧ ∀ t, t < b.n → b.nj t ≤ 60 := by
  simp only [smallB, Bool.and_eq_true, allB_iff, decide_eq_true_eq] at h
  obtain ⟨h1, h2⟩ := h
  have h3 : ∀ t, t < b.n → ∀ j, j < b.nj t → cntJ b t + (j + 1) ≤ 60 ∧ b.nd t j ≤ 70 := fun t ht j hj => by
    have := h1 t ht j hj
    simp only [fewT, Bool.and_eq_true, decide_eq_true_eq] at this
    exact this
  refine ⟨h2, fun t ht j hj => (h3 t ht j hj).2, fun t ht => ?_⟩
  by_cases e : b.nj t = 0
  · omega
  · have := (h3 t ht (b.nj t - 1) (by omega)).1
    omega
set_option maxHeartbeats 8000000 in
set_option maxRecDepth 8000 in
theorem sruns_spec (b : Jb) (hb : b.small) (T J : Nat → Int) (m : Nat) (c : Nat → Int) (hm : m ≤ maxLen) (hr : ranI T J m) :
    FSpec Try.prog 5 [(0, some (.dp false (jobsD b))), (1, some (.ro 2 m (ranE T J)))] 2 [.a (cellsC c), .l (.fs 0 [] 1 0 b.n 0), .l (.s 1 2 0 m 0)] fun x h n => x = sBool true := by
  refine FSpec.mono (Q := fun x h k => x = sBool true ∧ k = 2 ∧ h = []) ?_ fun x h k hx => hx.1
  unfold maxLen at hm
  have hsm := small_spec b hb
  have haw := awake_spec
  obtain ⟨hb1, hb2, hb3⟩ := id hb
  refine spec_of_ev Try.func5 ic5_eq (rs := [.t 6]) (by kernel_rfl) (by kernel_rfl) (by kernel_rfl) fun G hP hA => ?_
  unfold evF ic5
  conv => whnf
  refine dsplit (fun h1 => ?_) (fun h1 => ?_)
  · conv => whnf
    (refine call_auto hP (haw) ?_; conv => whnf); (refine ⟨⟨rfl, rfl, rfl, (by repeat' (first | exact trivial | exact rfl | (intro _ _; exact rfl) | (intro _ hj; exact absurd hj (Nat.not_lt_zero _)) | exact Nat.le_refl _ | exact Or.inl (Or.inl (And.intro (fun h => h) rfl)) | apply And.intro)), rfl, rfl⟩, ?_⟩; conv => whnf)
    (refine fin_auto ?_; conv => whnf); exact ⟨rfl, rfl, rfl, rfl, (by repeat' (first | exact trivial | exact rfl | (intro _ _; exact rfl) | (intro _ hj; exact absurd hj (Nat.not_lt_zero _)) | exact Nat.le_refl _ | exact Or.inl (Or.inl (And.intro (fun h => h) rfl)) | apply And.intro)), rfl⟩
  · conv => whnf
    (refine call_auto hP (hsm) ?_; conv => whnf); (refine ⟨⟨rfl, rfl, rfl, (by repeat' (first | exact trivial | exact rfl | (intro _ _; exact rfl) | (intro _ hj; exact absurd hj (Nat.not_lt_zero _)) | exact Nat.le_refl _ | exact Or.inl (Or.inl (And.intro (fun h => h) rfl)) | apply And.intro)), rfl, rfl⟩, ?_⟩; conv => whnf)
    refine nbsplit (fun h2 => ?_) (fun h2 => ?_)
    · conv => whnf
      (refine call_auto hP (haw) ?_; conv => whnf); (refine ⟨⟨rfl, rfl, rfl, (by repeat' (first | exact trivial | exact rfl | (intro _ _; exact rfl) | (intro _ hj; exact absurd hj (Nat.not_lt_zero _)) | exact Nat.le_refl _ | exact Or.inl (Or.inl (And.intro (fun h => h) rfl)) | apply And.intro)), rfl, rfl⟩, ?_⟩; conv => whnf)
      (refine fin_auto ?_; conv => whnf); exact ⟨rfl, rfl, rfl, rfl, (by repeat' (first | exact trivial | exact rfl | (intro _ _; exact rfl) | (intro _ hj; exact absurd hj (Nat.not_lt_zero _)) | exact Nat.le_refl _ | exact Or.inl (Or.inl (And.intro (fun h => h) rfl)) | apply And.intro)), rfl⟩
    · obtain ⟨g1, g2, g3⟩ := smallB_out h2
      conv => whnf
      refine loop_auto (α := Nat) (ds := []) (N := 3) (fun t => [(30, sInt .i64 (t : Int))]) [] (fun _ => []) (fun t => t ≤ b.n ∧ ∀ t', t' < t → ∀ j, j < b.nj t' → fineB (b.d t' j) (b.nd t' j) = true) (fun t => b.n - t) 0 ⟨Nat.zero_le _, fun _ h => absurd h (Nat.not_lt_zero _)⟩ ?_ fun t ht => ?_
      · (conv => whnf); (refine imp_auto hA ?_; conv => whnf); exact ⟨rfl, rfl, rfl, (by repeat' (first | exact trivial | exact rfl | apply And.intro)), (by repeat' (first | exact trivial | exact rfl | (intro _ _; exact rfl) | (intro _ hj; exact absurd hj (Nat.not_lt_zero _)) | exact Nat.le_refl _ | exact Or.inl (Or.inl (And.intro (fun h => h) rfl)) | apply And.intro)), rfl⟩
      · obtain ⟨ht, hft⟩ := ht
        conv => whnf
        refine dsplit (fun h3 => ?_) (fun h3 => ?_)
        · have htn : t < b.n := by omega
          have hnj := hb2 t htn
          conv => whnf
          (repeat' (first | (refine And.intro (by (first | omega | assumption | (simp only [nadd_eq]; omega) | (simp [nadd_eq]; omega))) ?_; conv => whnf) | (refine arI64 (by omega) (by omega) ?_; conv => whnf) | (refine arU32 (by omega) (by omega) ?_; conv => whnf) | (refine arU8 (by omega) (by omega) ?_; conv => whnf)))
          refine loop_auto (α := Nat) (ds := []) (N := 3) (fun j => [(36, sInt .i64 (j : Int))]) [] (fun _ => []) (fun j => j ≤ b.nj t ∧ ∀ j', j' < j → fineB (b.d t j') (b.nd t j') = true) (fun j => b.nj t - j) 0 ⟨Nat.zero_le _, fun _ h => absurd h (Nat.not_lt_zero _)⟩ ?_ fun j hj => ?_
          · (conv => whnf); (refine imp_auto hA ?_; conv => whnf); exact ⟨rfl, rfl, rfl, (by repeat' (first | exact trivial | exact rfl | apply And.intro)), (by repeat' (first | exact trivial | exact rfl | (intro _ _; exact rfl) | (intro _ hj; exact absurd hj (Nat.not_lt_zero _)) | exact Nat.le_refl _ | exact Or.inl (Or.inl (And.intro (fun h => h) rfl)) | apply And.intro)), rfl⟩
          · obtain ⟨hj, hfj⟩ := hj
            conv => whnf
            refine dsplit (fun h4 => ?_) (fun h4 => ?_)
            · replace h4 : (j : Int) < (b.nj t : Int) := h4
              have hjn : j < b.nj t := by omega
              have hfi := fine_spec (b.d t j) (b.nd t j) (hb3 t htn j hjn)
              conv => whnf
              (repeat' (first | (refine And.intro (by (first | omega | assumption | (simp only [nadd_eq]; omega) | (simp [nadd_eq]; omega))) ?_; conv => whnf) | (refine arI64 (by omega) (by omega) ?_; conv => whnf) | (refine arU32 (by omega) (by omega) ?_; conv => whnf) | (refine arU8 (by omega) (by omega) ?_; conv => whnf)))
              refine call_flat_at 0 (fun l => ddE (b.d t j) l) rfl rfl rfl ?_ ?_ ?_
              · exact Nat.le_of_eq (Nat.zero_add _)
              · intro l hl
                refine ⟨rfl, fun cc hcc => ?_⟩
                rw [Nat.zero_add]
                rcases (show cc = 0 ∨ cc = 1 ∨ cc = 2 from by omega) with rfl | rfl | rfl
                · exact ⟨_, rfl, rfl⟩
                · exact ⟨_, rfl, rfl⟩
                · exact ⟨_, rfl, rfl⟩
              conv => whnf
              (refine call_auto hP (hfi) ?_; conv => whnf); (refine ⟨⟨rfl, rfl, rfl, (by repeat' (first | exact trivial | exact rfl | (intro _ _; exact rfl) | (intro _ hj; exact absurd hj (Nat.not_lt_zero _)) | exact Nat.le_refl _ | exact Or.inl (Or.inl (And.intro (fun h => h) rfl)) | apply And.intro)), rfl, rfl⟩, ?_⟩; conv => whnf)
              refine nbsplit (fun h5 => ?_) (fun h5 => ?_)
              · conv => whnf
                (refine call_auto hP (haw) ?_; conv => whnf); (refine ⟨⟨rfl, rfl, rfl, (by repeat' (first | exact trivial | exact rfl | (intro _ _; exact rfl) | (intro _ hj; exact absurd hj (Nat.not_lt_zero _)) | exact Nat.le_refl _ | exact Or.inl (Or.inl (And.intro (fun h => h) rfl)) | apply And.intro)), rfl, rfl⟩, ?_⟩; conv => whnf)
                (refine fin_auto ?_; conv => whnf); exact ⟨rfl, rfl, rfl, rfl, (by repeat' (first | exact trivial | exact rfl | (intro _ _; exact rfl) | (intro _ hj; exact absurd hj (Nat.not_lt_zero _)) | exact Nat.le_refl _ | exact Or.inl (Or.inl (And.intro (fun h => h) rfl)) | apply And.intro)), rfl⟩
              · conv => whnf
                (repeat' (first | (refine And.intro (by (first | omega | assumption | (simp only [nadd_eq]; omega) | (simp [nadd_eq]; omega))) ?_; conv => whnf) | (refine arI64 (by omega) (by omega) ?_; conv => whnf) | (refine arU32 (by omega) (by omega) ?_; conv => whnf) | (refine arU8 (by omega) (by omega) ?_; conv => whnf)))
                refine ⟨j + 1, ⟨by omega, fun j' hj' => ?_⟩, by omega, ?_⟩
                · by_cases e : j' = j
                  · subst e; exact h5
                  · exact hfj j' (by omega)
                (conv => whnf); (refine imp_auto hA ?_; conv => whnf); exact ⟨rfl, rfl, rfl, (by repeat' (first | exact trivial | exact rfl | apply And.intro)), (by repeat' (first | exact trivial | exact rfl | (intro _ _; exact rfl) | (intro _ hj; exact absurd hj (Nat.not_lt_zero _)) | exact Nat.le_refl _ | exact Or.inl (Or.inl (And.intro (fun h => h) rfl)) | apply And.intro)), rfl⟩
            · replace h4 : ¬ (j : Int) < (b.nj t : Int) := h4
              obtain rfl : j = b.nj t := by omega
              conv => whnf
              (repeat' (first | (refine And.intro (by (first | omega | assumption | (simp only [nadd_eq]; omega) | (simp [nadd_eq]; omega))) ?_; conv => whnf) | (refine arI64 (by omega) (by omega) ?_; conv => whnf) | (refine arU32 (by omega) (by omega) ?_; conv => whnf) | (refine arU8 (by omega) (by omega) ?_; conv => whnf)))
              refine ⟨t + 1, ⟨by omega, fun t' ht' => ?_⟩, by omega, ?_⟩
              · by_cases e : t' = t
                · subst e; exact hfj
                · exact hft t' (by omega)
              (conv => whnf); (refine imp_auto hA ?_; conv => whnf); exact ⟨rfl, rfl, rfl, (by repeat' (first | exact trivial | exact rfl | apply And.intro)), (by repeat' (first | exact trivial | exact rfl | (intro _ _; exact rfl) | (intro _ hj; exact absurd hj (Nat.not_lt_zero _)) | exact Nat.le_refl _ | exact Or.inl (Or.inl (And.intro (fun h => h) rfl)) | apply And.intro)), rfl⟩
        · obtain rfl : t = b.n := by omega
          conv => whnf
          refine loop_auto (α := Nat) (ds := []) (N := 4) (fun i => [(11, .o (.l (.s 3 2 0 i 0))), (49, sInt .i64 (i : Int))]) [] (fun i => [(3, some (.ar 2 i (ranE T J)))])
            (fun i => i ≤ m) (fun i => m - i) 0 (Nat.zero_le _) ?_ fun i hi => ?_
          · conv => whnf
            refine Imp.trans (imp_nil 11 2 (ranE T J) rfl) ?_
            (conv => whnf); (refine imp_auto hA ?_; conv => whnf); exact ⟨rfl, rfl, rfl, (by repeat' (first | exact trivial | exact rfl | apply And.intro)), (by repeat' (first | exact trivial | exact rfl | (intro _ _; exact rfl) | (intro _ hj; exact absurd hj (Nat.not_lt_zero _)) | exact Nat.le_refl _ | exact Or.inl (Or.inl (And.intro (fun h => h) rfl)) | apply And.intro)), rfl⟩
          · have hni : nadd 0 ((i : Nat) : Int).toNat = i := by simp [nadd_eq]
            conv => whnf
            refine dsplit (fun h6 => ?_) (fun h6 => ?_)
            · conv => whnf
              (repeat' (first | (refine And.intro (by (first | omega | assumption | (simp only [nadd_eq]; omega) | (simp [nadd_eq]; omega))) ?_; conv => whnf) | (refine arI64 (by omega) (by omega) ?_; conv => whnf) | (refine arU32 (by omega) (by omega) ?_; conv => whnf) | (refine arU8 (by omega) (by omega) ?_; conv => whnf)))
              rw [hni]
              conv => whnf
              refine ⟨i + 1, by omega, by omega, ?_⟩
              (conv => whnf); (refine imp_auto hA ?_; conv => whnf); refine ⟨rfl, rfl, rfl, (by repeat' (first | exact trivial | exact rfl | apply And.intro)), ?_, rfl⟩
              refine And.intro (And.intro rfl (And.intro rfl fun j hj => ?_)) (by repeat' (first | exact trivial | exact rfl | (intro _ _; exact rfl) | (intro _ hj; exact absurd hj (Nat.not_lt_zero _)) | exact Nat.le_refl _ | exact Or.inl (Or.inl (And.intro (fun h => h) rfl)) | apply And.intro))
              exact snoc_rows (f := ranE T J) (i := i) rfl j hj
            · obtain rfl : i = m := by omega
              have h17 := ref17_spec b hb g2 g1 g3
              have h16 := serial16_spec b hb hft T J i c (by omega)
              have h12 := serial_spec b hb T J i c (by omega)
              have h18 := twice_spec T J i (by omega) hr
              have h19 := twice19_spec T J i (by omega)
              generalize twB T J i = tw at h18 h19
              generalize serC b T J c i = r at h12 h16
              cases hok : okT b T J i
              · rw [hok] at h12 h16
                simp only [Bool.false_eq_true, if_false] at h12 h16
                conv => whnf
                (refine drawP_intro (by rw [hP]; exact follows) (by kernel_rfl) ?_; conv => whnf)
                (refine callD_auto hP (h17) ?_; conv => whnf); (refine ⟨⟨rfl, rfl, rfl, (by repeat' (first | exact trivial | exact rfl | (intro _ _; exact rfl) | (intro _ hj; exact absurd hj (Nat.not_lt_zero _)) | exact Nat.le_refl _ | exact Or.inl (Or.inl (And.intro (fun h => h) rfl)) | apply And.intro)), rfl, rfl⟩, ?_⟩; conv => whnf)
                (refine callD_auto hP (h16) ?_; conv => whnf); refine ⟨⟨rfl, rfl, rfl, ?_, rfl, rfl⟩, ?_⟩
                · exact ⟨.inr ⟨rfl, DvEqB.refl _⟩, ⟨rfl, Nat.le_refl _, fun _ _ => rfl⟩, trivial⟩
                conv => whnf
                (repeat (refine And.intro (by (conv => whnf); first | exact ⟨rfl, rfl, rfl⟩ | (refine And.intro (by omega) ?_; (conv => whnf); exact ⟨rfl, rfl, rfl⟩)) ?_; conv => whnf))
                (refine call_auto hP (h12) ?_; conv => whnf); (refine ⟨⟨rfl, rfl, rfl, (by repeat' (first | exact trivial | exact rfl | (intro _ _; exact rfl) | (intro _ hj; exact absurd hj (Nat.not_lt_zero _)) | exact Nat.le_refl _ | exact Or.inl (Or.inl (And.intro (fun h => h) rfl)) | apply And.intro)), rfl, rfl⟩, ?_⟩; conv => whnf)
                refine bsplit (fun h9 => ?_) (fun h9 => absurd h9 (by simp [xb]))
                rw [h9]
                conv => whnf
                (refine call_auto hP (h18) ?_; conv => whnf); (refine ⟨⟨rfl, rfl, rfl, (by repeat' (first | exact trivial | exact rfl | (intro _ _; exact rfl) | (intro _ hj; exact absurd hj (Nat.not_lt_zero _)) | exact Nat.le_refl _ | exact Or.inl (Or.inl (And.intro (fun h => h) rfl)) | apply And.intro)), rfl, rfl⟩, ?_⟩; conv => whnf)
                (refine call_auto hP (h19) ?_; conv => whnf); (refine ⟨⟨rfl, rfl, rfl, (by repeat' (first | exact trivial | exact rfl | (intro _ _; exact rfl) | (intro _ hj; exact absurd hj (Nat.not_lt_zero _)) | exact Nat.le_refl _ | exact Or.inl (Or.inl (And.intro (fun h => h) rfl)) | apply And.intro)), rfl, rfl⟩, ?_⟩; conv => whnf)
                refine bsplit (fun h10 => ?_) (fun h10 => absurd h10 (by simp [xb]))
                rw [h10]
                conv => whnf
                (refine call_auto hP (haw) ?_; conv => whnf); (refine ⟨⟨rfl, rfl, rfl, (by repeat' (first | exact trivial | exact rfl | (intro _ _; exact rfl) | (intro _ hj; exact absurd hj (Nat.not_lt_zero _)) | exact Nat.le_refl _ | exact Or.inl (Or.inl (And.intro (fun h => h) rfl)) | apply And.intro)), rfl, rfl⟩, ?_⟩; conv => whnf)
                (refine fin_auto ?_; conv => whnf); refine ⟨rfl, rfl, rfl, bool_fin ?_, (by repeat' (first | exact trivial | exact rfl | (intro _ _; exact rfl) | (intro _ hj; exact absurd hj (Nat.not_lt_zero _)) | exact Nat.le_refl _ | exact Or.inl (Or.inl (And.intro (fun h => h) rfl)) | apply And.intro)), rfl⟩
                rfl
              · rw [hok] at h12 h16
                simp only [if_true] at h12 h16
                conv => whnf
                (refine drawP_intro (by rw [hP]; exact follows) (by kernel_rfl) ?_; conv => whnf)
                (refine callD_auto hP (h17) ?_; conv => whnf); (refine ⟨⟨rfl, rfl, rfl, (by repeat' (first | exact trivial | exact rfl | (intro _ _; exact rfl) | (intro _ hj; exact absurd hj (Nat.not_lt_zero _)) | exact Nat.le_refl _ | exact Or.inl (Or.inl (And.intro (fun h => h) rfl)) | apply And.intro)), rfl, rfl⟩, ?_⟩; conv => whnf)
                (refine callD_auto hP (h16) ?_; conv => whnf); refine ⟨⟨rfl, rfl, rfl, ?_, rfl, rfl⟩, ?_⟩
                · exact ⟨.inr ⟨rfl, DvEqB.refl _⟩, ⟨rfl, Nat.le_refl _, fun _ _ => rfl⟩, trivial⟩
                conv => whnf
                (repeat (refine And.intro (by (conv => whnf); first | exact ⟨rfl, rfl, rfl⟩ | (refine And.intro (by omega) ?_; (conv => whnf); exact ⟨rfl, rfl, rfl⟩)) ?_; conv => whnf))
                (refine call_auto hP (h12) ?_; conv => whnf); (refine ⟨⟨rfl, rfl, rfl, (by repeat' (first | exact trivial | exact rfl | (intro _ _; exact rfl) | (intro _ hj; exact absurd hj (Nat.not_lt_zero _)) | exact Nat.le_refl _ | exact Or.inl (Or.inl (And.intro (fun h => h) rfl)) | apply And.intro)), rfl, rfl⟩, ?_⟩; conv => whnf)
                refine bsplit (fun h9 => ?_) (fun h9 => absurd h9 (by simp [xb]))
                rw [h9]
                conv => whnf
                (refine call_auto hP (h18) ?_; conv => whnf); (refine ⟨⟨rfl, rfl, rfl, (by repeat' (first | exact trivial | exact rfl | (intro _ _; exact rfl) | (intro _ hj; exact absurd hj (Nat.not_lt_zero _)) | exact Nat.le_refl _ | exact Or.inl (Or.inl (And.intro (fun h => h) rfl)) | apply And.intro)), rfl, rfl⟩, ?_⟩; conv => whnf)
                (refine call_auto hP (h19) ?_; conv => whnf); (refine ⟨⟨rfl, rfl, rfl, (by repeat' (first | exact trivial | exact rfl | (intro _ _; exact rfl) | (intro _ hj; exact absurd hj (Nat.not_lt_zero _)) | exact Nat.le_refl _ | exact Or.inl (Or.inl (And.intro (fun h => h) rfl)) | apply And.intro)), rfl, rfl⟩, ?_⟩; conv => whnf)
                refine bsplit (fun h10 => ?_) (fun h10 => absurd h10 (by simp [xb]))
                rw [h10]
                conv => whnf
                (refine call_auto hP (haw) ?_; conv => whnf); (refine ⟨⟨rfl, rfl, rfl, (by repeat' (first | exact trivial | exact rfl | (intro _ _; exact rfl) | (intro _ hj; exact absurd hj (Nat.not_lt_zero _)) | exact Nat.le_refl _ | exact Or.inl (Or.inl (And.intro (fun h => h) rfl)) | apply And.intro)), rfl, rfl⟩, ?_⟩; conv => whnf)
                (refine fin_auto ?_; conv => whnf); refine ⟨rfl, rfl, rfl, bool_fin ?_, (by repeat' (first | exact trivial | exact rfl | (intro _ _; exact rfl) | (intro _ hj; exact absurd hj (Nat.not_lt_zero _)) | exact Nat.le_refl _ | exact Or.inl (Or.inl (And.intro (fun h => h) rfl)) | apply And.intro)), rfl⟩
                rfl
end Go.Proofs.Ytfkhaicghoiijab
