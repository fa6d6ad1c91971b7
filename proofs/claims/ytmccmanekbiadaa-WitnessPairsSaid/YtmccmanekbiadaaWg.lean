/- WitnessPairs: the plain laws, and the walk. -/
import Derived.Test.YtmccmanekbiadaaWf
set_option linter.unusedSimpArgs false
set_option linter.unusedVariables false
namespace Go.Proofs.Ytmccmanekbiadaa
open Go Go.Sx

theorem until_ge_iff (p : Nat → Bool) (m g : Nat) (hg : g ≤ m) : ∀ d j, m = j + d → (g ≤ untilF p m j ↔ ∀ l, j ≤ l → l < g → p l = false)
  | 0, j, h => by
    obtain rfl : m = j := h
    rw [until_end]
    exact ⟨fun _ l h1 h2 => absurd h2 (by omega), fun _ => hg⟩
  | d + 1, j, h => by
    cases hp : p j
    · rw [until_miss (by omega) hp, until_ge_iff p m g hg d (j + 1) (by omega)]
      constructor
      · intro hh l h1 h2
        by_cases hl : l = j
        · subst hl; exact hp
        · exact hh l (by omega) h2
      · exact fun hh l h1 h2 => hh l (by omega) h2
    · rw [until_hit (by omega) hp]
      constructor
      · exact fun hh l h1 h2 => absurd h2 (by omega)
      · intro hh
        rcases Nat.lt_or_ge j g with h1 | h1
        · have := hh j (Nat.le_refl _) h1
          rw [hp] at this; cases this
        · exact h1
theorem until_at (p : Nat → Bool) (m : Nat) : ∀ d j, m = j + d → untilF p m j < m → p (untilF p m j) = true
  | 0, j, h, hl => by
    obtain rfl : m = j := h
    rw [until_end] at hl
    exact absurd hl (Nat.lt_irrefl _)
  | d + 1, j, h, hl => by
    cases hp : p j
    · rw [until_miss (by omega) hp] at hl ⊢
      exact until_at p m d (j + 1) (by omega) hl
    · rw [until_hit (by omega) hp]; exact hp
theorem hit_two (k t : Nat → Int) (v a b : Int) (j : Nat) : hitB k t v a b j = false ↔ hitB k t v a a j = false ∧ hitB k t v b b j = false := by
  unfold hitB
  cases decide (t j = v) <;> cases decide (k j = a) <;> cases decide (k j = b) <;> simp
theorem ov_pair (k t : Nat → Int) (m i j : Nat) (hi : i < m) (hj : j < m) : ovB k t m i j = (decide (k i = 2) && (decide (i < j) && pairB k t (fun _ _ => true) m i j)) := by
  unfold ovB pairB
  by_cases h1 : k i = 2
  · rw [decide_eq_true h1, Bool.true_and, Bool.true_and]
    by_cases h2 : k j = 1
    · have hij : i ≠ j := fun h => by rw [h, h2] at h1; cases h1
      rw [decide_eq_true h2, Bool.true_and, Bool.true_and]
      by_cases h3 : i < j
      · rw [decide_eq_true h3, decide_eq_true (show i ≤ j by omega), Bool.true_and, Bool.true_and]
        by_cases h4 : t i = t j
        · rw [decide_eq_true h4, decide_eq_true h4.symm]; rfl
        · rw [decide_eq_false h4, decide_eq_false (show ¬ t j = t i from fun h => h4 h.symm), Bool.not_false, Bool.true_and, Bool.true_and, Bool.true_and]
          have hge := until_ge (hitB k t (t j) 4 4) m (m - (j + 1)) (j + 1) (by omega)
          have hat := until_at (hitB k t (t j) 4 4) m (m - (j + 1)) (j + 1) (by omega)
          generalize untilF (hitB k t (t j) 4 4) m (j + 1) = g at hge hat
          by_cases h5 : g < m
          · have hg := hat h5
            have hgi : hitB k t (t i) 4 5 g = false := by
              unfold hitB at hg ⊢
              rw [Bool.and_eq_true, decide_eq_true_eq] at hg
              rw [decide_eq_false (fun h => h4 (h.symm.trans hg.1))]; rfl
            have e1 := until_ge_iff (hitB k t (t i) 4 5) m (g + 1) (by omega) (m - (i + 1)) (i + 1) (by omega)
            have e4 := until_ge_iff (hitB k t (t i) 4 4) g g (Nat.le_refl _) (g - (i + 1)) (i + 1) (by omega)
            have e5 := until_ge_iff (hitB k t (t i) 5 5) g g (Nat.le_refl _) (g - (i + 1)) (i + 1) (by omega)
            rw [decide_eq_true h5, Bool.true_and, Bool.true_and, Bool.eq_iff_iff, Bool.and_eq_true, decide_eq_true_eq]
            unfold betB
            rw [Bool.not_eq_true', Bool.not_eq_true', decide_eq_false_iff_not, decide_eq_false_iff_not, Nat.not_lt, Nat.not_lt, e4, e5]
            refine Iff.trans ?_ (Iff.trans e1.symm Iff.rfl)
            constructor
            · rintro ⟨a1, a2⟩ l h6 h7
              by_cases hl : l = g
              · rw [hl]; exact hgi
              · exact (hit_two k t (t i) 4 5 l).2 ⟨a1 l h6 (by omega), a2 l h6 (by omega)⟩
            · exact fun hh => ⟨fun l h6 h7 => ((hit_two k t (t i) 4 5 l).1 (hh l h6 (by omega))).1, fun l h6 h7 => ((hit_two k t (t i) 4 5 l).1 (hh l h6 (by omega))).2⟩
          · rw [decide_eq_false h5]; rfl
      · rw [decide_eq_false h3, decide_eq_false (show ¬ i ≤ j by omega)]; rfl
    · rw [decide_eq_false h2, Bool.false_and, Bool.false_and, Bool.and_false]
  · rw [decide_eq_false h1]; rfl
def cntA (p : Nat → Bool) : Nat → Nat
  | 0 => 0
  | j + 1 => cntA p j + if p j = true then 1 else 0
theorem cntA_le (p : Nat → Bool) : ∀ j, cntA p j ≤ j
  | 0 => Nat.le_refl _
  | j + 1 => by
    have := cntA_le p j
    rw [cntA]
    split <;> omega
def sumA (q : Nat → Nat → Bool) (m : Nat) : Nat → Nat
  | 0 => 0
  | i + 1 => sumA q m i + cntA (q i) m
theorem sumA_le (q : Nat → Nat → Bool) (m : Nat) (hm : m ≤ 100) : ∀ i, sumA q m i ≤ 100 * i
  | 0 => Nat.le_refl _
  | i + 1 => by
    have := sumA_le q m hm i
    have h2 := cntA_le (q i) m
    rw [sumA]; omega
theorem cntA_eq {p q : Nat → Bool} {c : Prop} [Decidable c] {i : Nat} : ∀ J, (∀ j, j < J → p j = (decide c && (decide (i < j) && q j))) → cntA p J = if c then cntF q i J else 0
  | 0, _ => by rw [cntA, cntF, ite_self]
  | J + 1, h => by
    rw [cntA, cntF, cntA_eq J fun j hj => h j (by omega), h J (Nat.lt_succ_self _)]
    by_cases hc : c
    · rw [if_pos hc, if_pos hc, decide_eq_true hc, Bool.true_and]
      by_cases hq : i < J ∧ q J = true
      · rw [if_pos hq, decide_eq_true hq.1, hq.2]; rfl
      · rw [if_neg hq, if_neg (by simpa using hq)]
    · rw [if_neg hc, if_neg hc, decide_eq_false hc]; rfl
theorem sumA_eq (k t : Nat → Int) (ok : Int → Int → Bool) (m : Nat) {q : Nat → Nat → Bool} (hq : ∀ i j, i < m → j < m → q i j = (ovB k t m i j && ok (t i) (t j))) : ∀ i, i ≤ m → sumA q m i = sumF k t ok m i
  | 0, _ => rfl
  | i + 1, hi => by
    rw [sumA, sumF, sumA_eq k t ok m hq i (by omega)]
    rw [cntA_eq (p := q i) (q := pairB k t ok m i) (c := k i = 2) (i := i) m fun j hj => ?_]
    rw [hq i j (by omega) hj, ov_pair k t m i j (by omega) hj]
    unfold pairB
    cases decide (k i = 2) <;> cases decide (i < j) <;> cases decide (k j = 1) <;> cases decide (t j = t i) <;> cases ok (t i) (t j) <;> simp
theorem okW_eq (h : Nat → Int) (N : Nat) (v u : Int) (h1 : 0 ≤ v) (h2 : v < N) (h3 : 0 ≤ u) (h4 : u < N) : okW h N v u = decide (h v.toNat = h u.toNat) := by
  unfold okW inB
  rw [decide_eq_true h1, decide_eq_true h2, decide_eq_true h3, decide_eq_true h4]; rfl
end Go.Proofs.Ytmccmanekbiadaa
