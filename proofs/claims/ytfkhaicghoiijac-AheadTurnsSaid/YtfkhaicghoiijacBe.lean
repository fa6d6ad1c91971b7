/- AheadTurns: the plain law. -/
import Derived.Test.YtfkhaicghoiijacBd
set_option linter.unusedSimpArgs false
set_option linter.unusedVariables false
namespace Go.Proofs.Ytfkhaicghoiijac
open Go Go.Sx

def cN (L : List Int) (c : Int) : Nat → Nat
  | 0 => 0
  | u + 1 => if L.getD u 0 = c then cN L c u + 1 else cN L c u
theorem cN_eq (L : List Int) (c : Int) : ∀ j, j ≤ L.length → cN L c j = (L.take j).count c
  | 0, _ => by simp [cN]
  | j + 1, h => by
    have hj : j < L.length := by omega
    have hg : L.getD j 0 = L[j] := by simp [hj]
    rw [List.take_succ_eq_append_getElem hj, List.count_append]
    simp only [cN, cN_eq L c j (by omega), hg]
    by_cases h2 : L[j] = c
    · rw [if_pos h2, h2]; simp
    · rw [if_neg h2]; simp [h2]
theorem cN_len (L : List Int) (c : Int) : cN L c L.length = L.count c := by rw [cN_eq L c _ (Nat.le_refl _), List.take_length]
theorem cN_le (L : List Int) (c : Int) : ∀ u, cN L c u ≤ u
  | 0 => Nat.le_refl _
  | u + 1 => by have := cN_le L c u; simp only [cN]; split <;> omega
theorem count_one {L : List Int} (h : L.Pairwise (· < ·)) (c : Int) : L.count c ≤ 1 :=
  List.nodup_iff_count.1 (h.imp fun {a b} h => by omega) c
theorem count_mem {L : List Int} (h : L.Pairwise (· < ·)) (c : Int) : L.count c = if c ∈ L then 1 else 0 := by
  have h1 := count_one h c
  by_cases hm : c ∈ L
  · have := List.count_pos_iff.2 hm
    rw [if_pos hm]; omega
  · rw [if_neg hm]; exact List.count_eq_zero.2 hm
def dN (A B : List Int) : Nat → Nat
  | 0 => 0
  | v + 1 => if A.count ((A ++ B).getD v 0) ≠ B.count ((A ++ B).getD v 0) then dN A B v + 1 else dN A B v
theorem dN_le (A B : List Int) : ∀ v, dN A B v ≤ v
  | 0 => Nat.le_refl _
  | v + 1 => by have := dN_le A B v; simp only [dN]; split <;> omega
theorem dN_count {A B : List Int} {c : Int} (ho : ∀ x, x ≠ c → A.count x = B.count x) : ∀ v, v ≤ (A ++ B).length → dN A B v ≤ ((A ++ B).take v).count c ∧ (A.count c = B.count c → dN A B v = 0)
  | 0, _ => ⟨by simp [dN], fun _ => rfl⟩
  | v + 1, h => by
    obtain ⟨i1, i2⟩ := dN_count ho v (by omega)
    have hv : v < (A ++ B).length := by omega
    have hg : (A ++ B).getD v 0 = (A ++ B)[v] := by rw [List.getD_eq_getElem?_getD, List.getElem?_eq_getElem hv]; rfl
    rw [List.take_succ_eq_append_getElem hv, List.count_append]
    simp only [dN, hg]
    generalize (A ++ B)[v] = y at *
    by_cases hy : y = c
    · subst hy
      constructor
      · split <;> simp <;> omega
      · intro he; rw [if_neg (by simpa using he)]; exact i2 he
    · have := ho y hy
      rw [if_neg (by simpa using this)]
      exact ⟨by omega, i2⟩
theorem dN_one {A B : List Int} {c : Int} (hA : A.Pairwise (· < ·)) (hB : B.Pairwise (· < ·)) (ho : ∀ x, x ≠ c → A.count x = B.count x) : dN A B (A ++ B).length ≤ 1 := by
  obtain ⟨h1, h2⟩ := dN_count ho _ (Nat.le_refl _)
  rw [List.take_length, List.count_append] at h1
  have h3 := count_one hA c
  have h4 := count_one hB c
  by_cases he : A.count c = B.count c
  · have := h2 he; omega
  · omega
theorem qu_other (k t : Nat → Int) (i : Nat) (x : Int) (hx : x ≠ t i) : (quN k t i).count x = (quN k t (i + 1)).count x := by
  rw [count_mem (qu_sorted k t i), count_mem (qu_sorted k t (i + 1))]
  have h1 := qu_mem k t i x
  have h2 := qu_mem k t (i + 1) x
  rw [((law_inv k t i).2 x).1] at h1
  rw [((law_inv k t (i + 1)).2 x).1] at h2
  have h3 : inN k t (i + 1) x = inN k t i x := by
    simp only [inN]; rw [if_neg fun h => hx h.1.symm]
  rw [h3] at h2
  by_cases h : inN k t i x = true
  · rw [if_pos (h1.2 h), if_pos (h2.2 h)]
  · rw [if_neg fun hh => h (h1.1 hh), if_neg fun hh => h (h2.1 hh)]
end Go.Proofs.Ytfkhaicghoiijac
