/- WitnessFew: the plain laws, and the walk. -/
import Derived.Test.YtmccmanekbiadaaWc
set_option linter.unusedSimpArgs false
set_option linter.unusedVariables false
namespace Go.Proofs.Ytmccmanekbiadaa
open Go Go.Sx

theorem until_ge (p : Nat → Bool) (m : Nat) : ∀ d j, m = j + d → j ≤ untilF p m j
  | 0, j, h => by subst h; exact Nat.le_of_eq (until_end p _).symm
  | d + 1, j, h => by
    cases hp : p j
    · rw [until_miss (by omega) hp]
      have := until_ge p m d (j + 1) (by omega)
      omega
    · rw [until_hit (by omega) hp]; exact Nat.le_refl _
theorem until_pre (p : Nat → Bool) (m' m : Nat) (hm : m' ≤ m) : ∀ d j, m' = j + d → (untilF p m' j < m' → untilF p m j = untilF p m' j) ∧ untilF p m' j ≤ untilF p m j
  | 0, j, h => by
    obtain rfl : m' = j := h
    rw [until_end]
    exact ⟨fun h => absurd h (Nat.lt_irrefl _), until_ge p m (m - m') m' (by omega)⟩
  | d + 1, j, h => by
    cases hp : p j
    · rw [until_miss (by omega) hp, until_miss (show j < m by omega) hp]
      exact until_pre p m' m hm d (j + 1) (by omega)
    · rw [until_hit (by omega) hp, until_hit (show j < m by omega) hp]
      exact ⟨fun _ => rfl, Nat.le_refl _⟩
theorem cntF_mono {p q : Nat → Bool} {i : Nat} : ∀ {J J' : Nat}, J ≤ J' → (∀ j, i < j → j < J → p j = true → q j = true) → cntF p i J ≤ cntF q i J'
  | J, 0, h, hpq => by
    obtain rfl : J = 0 := by omega
    exact Nat.le_refl _
  | J, J' + 1, h, hpq => by
    by_cases hJ : J = J' + 1
    · subst hJ
      have ih := cntF_mono (p := p) (q := q) (i := i) (Nat.le_refl J') fun j h1 h2 => hpq j h1 (by omega)
      rw [cntF, cntF]
      by_cases hc : i < J' ∧ p J' = true
      · rw [if_pos hc, if_pos ⟨hc.1, hpq J' hc.1 (by omega) hc.2⟩]; omega
      · rw [if_neg hc]; omega
    · have ih := cntF_mono (p := p) (q := q) (i := i) (show J ≤ J' by omega) hpq
      rw [cntF]; omega
theorem sumF_mono {k t : Nat → Int} {ok ok' : Int → Int → Bool} {m m' : Nat} (hm : m' ≤ m) (h : ∀ i j, i < j → j < m' → pairB k t ok m' i j = true → pairB k t ok' m i j = true) : ∀ i, sumF k t ok m' i ≤ sumF k t ok' m i
  | 0 => Nat.le_refl _
  | i + 1 => by
    have ih := sumF_mono (k := k) (t := t) hm h i
    rw [sumF, sumF]
    by_cases hk : k i = 2
    · rw [if_pos hk, if_pos hk]
      have := cntF_mono (p := pairB k t ok m' i) (q := pairB k t ok' m i) (i := i) hm fun j h1 h2 => h i j h1 h2
      omega
    · rw [if_neg hk, if_neg hk]; exact ih
theorem sumF_up (k t : Nat → Int) (ok : Int → Int → Bool) (m i : Nat) : ∀ d, sumF k t ok m i ≤ sumF k t ok m (i + d)
  | 0 => Nat.le_refl _
  | d + 1 => by
    have := sumF_up k t ok m i d
    show _ ≤ sumF k t ok m (i + d + 1)
    rw [sumF]
    split <;> omega
theorem pairB_ok {k t : Nat → Int} {ok : Int → Int → Bool} {m i j : Nat} (h : pairB k t ok m i j = true) : pairB k t (fun _ _ => true) m i j = true := by
  unfold pairB at h ⊢
  simp only [Bool.and_eq_true] at h ⊢
  exact ⟨h.1, h.2.1, trivial, h.2.2.2⟩
/-- Nothing more within the homes than at all. -/
theorem within_le (k t : Nat → Int) (ok : Int → Int → Bool) (m : Nat) : sumF k t ok m m ≤ sumF k t (fun _ _ => true) m m := sumF_mono (Nat.le_refl m) (fun _ _ _ _ => pairB_ok) m
def allB (t : Nat → Int) : Nat → Bool
  | 0 => true
  | i + 1 => allB t i && (decide (0 ≤ t i) && decide (t i < 64))
theorem allB_get {t : Nat → Int} : ∀ {m : Nat}, allB t m = true → ∀ i, i < m → 0 ≤ t i ∧ t i < 64
  | m + 1, h, i, hi => by
    rw [allB, Bool.and_eq_true, Bool.and_eq_true, decide_eq_true_eq, decide_eq_true_eq] at h
    rcases Nat.lt_succ_iff_lt_or_eq.1 hi with h1 | rfl
    · exact allB_get h.1 i h1
    · exact h.2
theorem zero_eq (k t : Nat → Int) (m : Nat) (h : allB t m = true) : sumF k t (okW (fun _ => 0) 64) m m = sumF k t (fun _ _ => true) m m := by
  refine Nat.le_antisymm (within_le k t _ m) ?_
  refine sumF_mono (Nat.le_refl m) (fun i j h1 h2 hp => ?_) m
  obtain ⟨a1, a2⟩ := allB_get h i (by omega)
  obtain ⟨b1, b2⟩ := allB_get h j h2
  unfold pairB at hp ⊢
  simp only [Bool.and_eq_true] at hp ⊢
  refine ⟨hp.1, hp.2.1, ?_, hp.2.2.2⟩
  unfold okW inB
  simp
  omega
/-- .. nor ahead of a place. -/
theorem few_le (k t : Nat → Int) (m' m : Nat) (hm : m' ≤ m) : sumF k t (fun _ _ => true) m' m' ≤ sumF k t (fun _ _ => true) m m := by
  refine Nat.le_trans (m := sumF k t (fun _ _ => true) m m') (sumF_mono (m := m) (ok' := fun _ _ => true) hm (fun i j h1 h2 hp => ?_) m') ?_
  · unfold pairB at hp ⊢
    simp only [Bool.and_eq_true, decide_eq_true_eq] at hp ⊢
    obtain ⟨p1, p2, p3, p4, p5⟩ := hp
    have q1 := (until_pre (hitB k t (t j) 4 4) m' m hm (m' - (j + 1)) (j + 1) (by omega)).1 p4
    have q2 := (until_pre (hitB k t (t i) 4 5) m' m hm (m' - (i + 1)) (i + 1) (by omega)).2
    exact ⟨p1, p2, p3, by omega, by omega⟩
  · obtain ⟨d, rfl⟩ : ∃ d, m = m' + d := ⟨m - m', by omega⟩
    exact sumF_up k t _ (m' + d) m' d
set_option maxHeartbeats 2000000 in
theorem few_spec (k t a : Nat → Int) (b : Nat → Bool) (m : Nat) (hm : m ≤ maxLen) (h : Nat → Int) (N : Nat) (hN : N ≤ maxLen) (u : Int) (hu : 0 ≤ u ∧ u ≤ 255) :
    FSpec Try.prog 6 [(0, some (.ro 4 m (entE k t a b))), (1, some (.ro 1 N (numE h)))] 2 [.l (.s 0 4 0 m 0), .l (.s 1 1 0 N 0), .l (.v (.int .u8 u))] fun x h j => x = sBool true := by
  unfold maxLen at hm hN
  refine FSpec.mono (Q := fun x h k => x = sBool true ∧ k = 2 ∧ h = []) ?_ fun x h k hx => hx.1
  have haw := awake_spec
  refine spec_of_ev Try.func6 ic6_eq (rs := [.t 6]) (by kernel_rfl) (by kernel_rfl) (by kernel_rfl) fun G hP hA => ?_
  unfold evF ic6
  conv => whnf
  refine dsplit (fun h1 => ?_) (fun h1 => ?_)
  · conv => whnf
    (refine call_auto hP (haw) ?_; conv => whnf); (refine ⟨⟨rfl, rfl, rfl, (by repeat' (first | exact trivial | exact rfl | (intro _ _; exact rfl) | (intro _ hj; exact absurd hj (Nat.not_lt_zero _)) | exact Nat.le_refl _ | exact Or.inl (Or.inl (And.intro (fun h => h) rfl)) | exact Or.inl rfl | apply And.intro)), rfl, rfl⟩, ?_⟩; conv => whnf)
    (refine fin_auto ?_; conv => whnf); exact ⟨rfl, rfl, rfl, rfl, (by repeat' (first | exact trivial | exact rfl | (intro _ _; exact rfl) | (intro _ hj; exact absurd hj (Nat.not_lt_zero _)) | exact Nat.le_refl _ | exact Or.inl (Or.inl (And.intro (fun h => h) rfl)) | exact Or.inl rfl | apply And.intro)), rfl⟩
  · conv => whnf
    refine dsplit (fun h2 => ?_) (fun h2 => ?_)
    · conv => whnf
      (refine call_auto hP (haw) ?_; conv => whnf); (refine ⟨⟨rfl, rfl, rfl, (by repeat' (first | exact trivial | exact rfl | (intro _ _; exact rfl) | (intro _ hj; exact absurd hj (Nat.not_lt_zero _)) | exact Nat.le_refl _ | exact Or.inl (Or.inl (And.intro (fun h => h) rfl)) | exact Or.inl rfl | apply And.intro)), rfl, rfl⟩, ?_⟩; conv => whnf)
      (refine fin_auto ?_; conv => whnf); exact ⟨rfl, rfl, rfl, rfl, (by repeat' (first | exact trivial | exact rfl | (intro _ _; exact rfl) | (intro _ hj; exact absurd hj (Nat.not_lt_zero _)) | exact Nat.le_refl _ | exact Or.inl (Or.inl (And.intro (fun h => h) rfl)) | exact Or.inl rfl | apply And.intro)), rfl⟩
    · have ho := Overtakes_spec k t a b m (by omega)
      conv => whnf
      (refine call_auto hP (ho) ?_; conv => whnf); (refine ⟨⟨rfl, rfl, rfl, (by repeat' (first | exact trivial | exact rfl | (intro _ _; exact rfl) | (intro _ hj; exact absurd hj (Nat.not_lt_zero _)) | exact Nat.le_refl _ | exact Or.inl (Or.inl (And.intro (fun h => h) rfl)) | exact Or.inl rfl | apply And.intro)), rfl, rfl⟩, ?_⟩; conv => whnf)
      refine loop_auto (α := Nat) (ds := []) (N := 2) (fun i => [(8, sBool (allB t i)), (25, sInt .i64 (i : Int))]) [] (fun _ => [])
        (fun i => i ≤ m) (fun i => m - i) 0 (Nat.zero_le _) ?_ fun i hi => ?_
      · (conv => whnf); (refine imp_auto hA ?_; conv => whnf); exact ⟨rfl, rfl, rfl, (by repeat' (first | exact trivial | exact rfl | apply And.intro)), (by repeat' (first | exact trivial | exact rfl | (intro _ _; exact rfl) | (intro _ hj; exact absurd hj (Nat.not_lt_zero _)) | exact Nat.le_refl _ | exact Or.inl (Or.inl (And.intro (fun h => h) rfl)) | exact Or.inl rfl | apply And.intro)), rfl⟩
      · conv => whnf
        refine dsplit (fun h3 => ?_) (fun h3 => ?_)
        · cases hb : allB t i
          · have hs : allB t (i + 1) = false := by rw [allB, hb]; rfl
            conv => whnf
            (repeat' (first | (refine And.intro (by (first | omega | assumption | (simp only [nadd_eq]; omega) | (simp [nadd_eq]; omega))) ?_; conv => whnf) | (refine arI64 (by omega) (by omega) ?_; conv => whnf) | (refine arU32 (by omega) (by omega) ?_; conv => whnf) | (refine arU8 (by omega) (by omega) ?_; conv => whnf)))
            refine ⟨i + 1, by omega, by omega, ?_⟩
            rw [hs]
            (conv => whnf); (refine imp_auto hA ?_; conv => whnf); exact ⟨rfl, rfl, rfl, (by repeat' (first | exact trivial | exact rfl | apply And.intro)), (by repeat' (first | exact trivial | exact rfl | (intro _ _; exact rfl) | (intro _ hj; exact absurd hj (Nat.not_lt_zero _)) | exact Nat.le_refl _ | exact Or.inl (Or.inl (And.intro (fun h => h) rfl)) | exact Or.inl rfl | apply And.intro)), rfl⟩
          · conv => whnf
            (repeat' (first | (refine And.intro (by (first | omega | assumption | (simp only [nadd_eq]; omega) | (simp [nadd_eq]; omega))) ?_; conv => whnf) | (refine arI64 (by omega) (by omega) ?_; conv => whnf) | (refine arU32 (by omega) (by omega) ?_; conv => whnf) | (refine arU8 (by omega) (by omega) ?_; conv => whnf)))
            refine dsplit (fun h4 => ?_) (fun h4 => ?_)
            · replace h4 : 0 ≤ t i := h4
              have hs : allB t (i + 1) = decide (t i < 64) := by rw [allB, hb, decide_eq_true h4]; rfl
              conv => whnf
              (repeat' (first | (refine And.intro (by (first | omega | assumption | (simp only [nadd_eq]; omega) | (simp [nadd_eq]; omega))) ?_; conv => whnf) | (refine arI64 (by omega) (by omega) ?_; conv => whnf) | (refine arU32 (by omega) (by omega) ?_; conv => whnf) | (refine arU8 (by omega) (by omega) ?_; conv => whnf)))
              refine ⟨i + 1, by omega, by omega, ?_⟩
              rw [hs]
              (conv => whnf); (refine imp_auto hA ?_; conv => whnf); exact ⟨rfl, rfl, rfl, (by repeat' (first | exact trivial | exact rfl | apply And.intro)), (by repeat' (first | exact trivial | exact rfl | (intro _ _; exact rfl) | (intro _ hj; exact absurd hj (Nat.not_lt_zero _)) | exact Nat.le_refl _ | exact Or.inl (Or.inl (And.intro (fun h => h) rfl)) | exact Or.inl rfl | apply And.intro)), rfl⟩
            · replace h4 : ¬ 0 ≤ t i := h4
              have hs : allB t (i + 1) = false := by rw [allB, hb, decide_eq_false h4]; rfl
              conv => whnf
              (repeat' (first | (refine And.intro (by (first | omega | assumption | (simp only [nadd_eq]; omega) | (simp [nadd_eq]; omega))) ?_; conv => whnf) | (refine arI64 (by omega) (by omega) ?_; conv => whnf) | (refine arU32 (by omega) (by omega) ?_; conv => whnf) | (refine arU8 (by omega) (by omega) ?_; conv => whnf)))
              refine ⟨i + 1, by omega, by omega, ?_⟩
              rw [hs]
              (conv => whnf); (refine imp_auto hA ?_; conv => whnf); exact ⟨rfl, rfl, rfl, (by repeat' (first | exact trivial | exact rfl | apply And.intro)), (by repeat' (first | exact trivial | exact rfl | (intro _ _; exact rfl) | (intro _ hj; exact absurd hj (Nat.not_lt_zero _)) | exact Nat.le_refl _ | exact Or.inl (Or.inl (And.intro (fun h => h) rfl)) | exact Or.inl rfl | apply And.intro)), rfl⟩
        · obtain rfl : i = m := by omega
          have hw := Within_spec h N (by omega) k t a b i (by omega)
          have hz := Within_spec (fun _ => 0) 64 (by omega) k t a b i (by omega)
          have l1 := within_le k t (okW h N) i
          conv => whnf
          (repeat' (first | (refine And.intro (by (first | omega | assumption | (simp only [nadd_eq]; omega) | (simp [nadd_eq]; omega))) ?_; conv => whnf) | (refine arI64 (by omega) (by omega) ?_; conv => whnf) | (refine arU32 (by omega) (by omega) ?_; conv => whnf) | (refine arU8 (by omega) (by omega) ?_; conv => whnf)))
          refine remI (by omega) (by omega) ?_
          obtain ⟨j, hj, hj2⟩ : ∃ j : Nat, u % ((i : Int) + 1) = j ∧ j ≤ i := by
            have h4 := Int.emod_nonneg u (show (i : Int) + 1 ≠ 0 by omega)
            have h5 := Int.emod_lt_of_pos u (show 0 < (i : Int) + 1 by omega)
            exact ⟨(u % ((i : Int) + 1)).toNat, by omega, by omega⟩
          rw [hj]
          have hf := Overtakes_spec k t a b j (by omega)
          have l2 := few_le k t j i hj2
          conv => whnf
          (refine call_auto hP (hw) ?_; conv => whnf); (refine ⟨⟨rfl, rfl, rfl, (by repeat' (first | exact trivial | exact rfl | (intro _ _; exact rfl) | (intro _ hj; exact absurd hj (Nat.not_lt_zero _)) | exact Nat.le_refl _ | exact Or.inl (Or.inl (And.intro (fun h => h) rfl)) | exact Or.inl rfl | apply And.intro)), rfl, rfl⟩, ?_⟩; conv => whnf)
          refine dsplit (fun h6 => ?_) (fun h6 => absurd (by omega) h6)
          cases hb : allB t i
          · conv => whnf
            (repeat' (first | (refine And.intro (by (first | omega | assumption | (simp only [nadd_eq]; omega) | (simp [nadd_eq]; omega))) ?_; conv => whnf) | (refine arI64 (by omega) (by omega) ?_; conv => whnf) | (refine arU32 (by omega) (by omega) ?_; conv => whnf) | (refine arU8 (by omega) (by omega) ?_; conv => whnf)))
            (refine call_auto hP (hf) ?_; conv => whnf); refine ⟨⟨rfl, rfl, rfl, ?_, rfl, rfl⟩, ?_⟩
            · exact And.intro (And.intro rfl (And.intro (show j ≤ i from hj2) fun i hi => rfl)) (by repeat' (first | exact trivial | exact rfl | (intro _ _; exact rfl) | (intro _ hj; exact absurd hj (Nat.not_lt_zero _)) | exact Nat.le_refl _ | exact Or.inl (Or.inl (And.intro (fun h => h) rfl)) | exact Or.inl rfl | apply And.intro))
            conv => whnf
            refine dsplit (fun h7 => ?_) (fun h7 => absurd (by omega) h7)
            conv => whnf
            (refine call_auto hP (haw) ?_; conv => whnf); (refine ⟨⟨rfl, rfl, rfl, (by repeat' (first | exact trivial | exact rfl | (intro _ _; exact rfl) | (intro _ hj; exact absurd hj (Nat.not_lt_zero _)) | exact Nat.le_refl _ | exact Or.inl (Or.inl (And.intro (fun h => h) rfl)) | exact Or.inl rfl | apply And.intro)), rfl, rfl⟩, ?_⟩; conv => whnf)
            (refine fin_auto ?_; conv => whnf); refine ⟨rfl, rfl, rfl, bool_fin ?_, (by repeat' (first | exact trivial | exact rfl | (intro _ _; exact rfl) | (intro _ hj; exact absurd hj (Nat.not_lt_zero _)) | exact Nat.le_refl _ | exact Or.inl (Or.inl (And.intro (fun h => h) rfl)) | exact Or.inl rfl | apply And.intro)), rfl⟩
            rfl
          · have l3 := zero_eq k t i hb
            conv => whnf
            refine And.intro ⟨rfl, by omega, by omega, by omega⟩ ?_
            conv => whnf
            (refine call_auto hP (hz) ?_; conv => whnf); (refine ⟨⟨rfl, rfl, rfl, (by repeat' (first | exact trivial | exact rfl | (intro _ _; exact rfl) | (intro _ hj; exact absurd hj (Nat.not_lt_zero _)) | exact Nat.le_refl _ | exact Or.inl (Or.inl (And.intro (fun h => h) rfl)) | exact Or.inl rfl | apply And.intro)), rfl, rfl⟩, ?_⟩; conv => whnf)
            refine dsplit (fun h8 => ?_) (fun h8 => absurd (by rw [l3]) h8)
            conv => whnf
            (repeat' (first | (refine And.intro (by (first | omega | assumption | (simp only [nadd_eq]; omega) | (simp [nadd_eq]; omega))) ?_; conv => whnf) | (refine arI64 (by omega) (by omega) ?_; conv => whnf) | (refine arU32 (by omega) (by omega) ?_; conv => whnf) | (refine arU8 (by omega) (by omega) ?_; conv => whnf)))
            (refine call_auto hP (hf) ?_; conv => whnf); refine ⟨⟨rfl, rfl, rfl, ?_, rfl, rfl⟩, ?_⟩
            · exact And.intro (And.intro rfl (And.intro (show j ≤ i from hj2) fun i hi => rfl)) (by repeat' (first | exact trivial | exact rfl | (intro _ _; exact rfl) | (intro _ hj; exact absurd hj (Nat.not_lt_zero _)) | exact Nat.le_refl _ | exact Or.inl (Or.inl (And.intro (fun h => h) rfl)) | exact Or.inl rfl | apply And.intro))
            conv => whnf
            refine dsplit (fun h7 => ?_) (fun h7 => absurd (by omega) h7)
            conv => whnf
            (refine call_auto hP (haw) ?_; conv => whnf); (refine ⟨⟨rfl, rfl, rfl, (by repeat' (first | exact trivial | exact rfl | (intro _ _; exact rfl) | (intro _ hj; exact absurd hj (Nat.not_lt_zero _)) | exact Nat.le_refl _ | exact Or.inl (Or.inl (And.intro (fun h => h) rfl)) | exact Or.inl rfl | apply And.intro)), rfl, rfl⟩, ?_⟩; conv => whnf)
            (refine fin_auto ?_; conv => whnf); refine ⟨rfl, rfl, rfl, bool_fin ?_, (by repeat' (first | exact trivial | exact rfl | (intro _ _; exact rfl) | (intro _ hj; exact absurd hj (Nat.not_lt_zero _)) | exact Nat.le_refl _ | exact Or.inl (Or.inl (And.intro (fun h => h) rfl)) | exact Or.inl rfl | apply And.intro)), rfl⟩
            rfl
end Go.Proofs.Ytmccmanekbiadaa
