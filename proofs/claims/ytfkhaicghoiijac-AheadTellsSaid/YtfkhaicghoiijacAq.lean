/- AheadLongest: the plain law. -/
import Derived.Test.YtfkhaicghoiijacAp
set_option linter.unusedSimpArgs false
set_option linter.unusedVariables false
namespace Go.Proofs.Ytfkhaicghoiijac
open Go Go.Sx

def ne (t : Int) : Int → Bool := fun u => decide (u ≠ t)
theorem countP_split (p : Int → Bool) (t : Int) : ∀ L : List Int, L.countP p = (L.filter (ne t)).countP p + (if p t = true then L.count t else 0)
  | [] => by simp
  | u :: L => by
    have ih := countP_split p t L
    by_cases h : u = t
    · subst h
      by_cases hp : p u = true
      · simp [hp, ne, ih, List.countP_cons, List.filter_cons]; omega
      · simp [hp, ne, ih, List.countP_cons, List.filter_cons]
    · have h2 : (u == t) = false := by simpa using h
      by_cases hp : p t = true <;> by_cases hq : p u = true <;> simp [hp, hq, ne, h, h2, ih, List.countP_cons, List.filter_cons, List.count_cons] <;> omega
theorem step_count (p : Int → Bool) (t u : Int) : ∀ q : List Int × Bool, (stepT t q u).1.countP p + (if q.2 = true ∧ p t = true then 1 else 0) =
    q.1.countP p + (if u ≠ t ∧ p u = true then 1 else 0) + (if (stepT t q u).2 = true ∧ p t = true then 1 else 0)
  | (l, false) => by
    unfold stepT
    by_cases h1 : t ≤ u
    · simp only [h1, true_and, if_true]
      by_cases h2 : u = t <;> by_cases h3 : p t = true <;> by_cases h4 : p u = true <;> simp_all [List.countP_append, List.countP_cons] <;> omega
    · have h2 : u ≠ t := by omega
      simp only [h1, false_and, if_false]
      by_cases h3 : p t = true <;> by_cases h4 : p u = true <;> simp_all [List.countP_append, List.countP_cons] <;> omega
  | (l, true) => by
    unfold stepT
    by_cases h2 : u = t <;> by_cases h3 : p t = true <;> by_cases h4 : p u = true <;> simp_all [List.countP_append, List.countP_cons] <;> omega
theorem acc_count (p : Int → Bool) (t : Int) (L : List Int) : ∀ j, j ≤ L.length → (accT t L j).1.countP p = ((L.take j).filter (ne t)).countP p + (if (accT t L j).2 = true ∧ p t = true then 1 else 0)
  | 0, _ => by simp [accT]
  | j + 1, h => by
    have ih := acc_count p t L j (by omega)
    have hs := step_count p t (L.getD j 0) (accT t L j)
    have hj : j < L.length := by omega
    have hg : L.getD j 0 = L[j] := by simp [hj]
    rw [List.take_succ_eq_append_getElem hj, List.filter_append, List.countP_append]
    rw [show accT t L (j + 1) = stepT t (accT t L j) (L.getD j 0) from rfl]
    rw [hg] at hs ⊢
    have he : List.countP p (List.filter (ne t) [L[j]]) = (if L[j] ≠ t ∧ p L[j] = true then 1 else 0) := by
      by_cases h1 : L[j] = t <;> by_cases h2 : p L[j] = true <;> simp [ne, h1, h2] <;> simp_all
    rw [he]
    omega
theorem fin_count (p : Int → Bool) (t : Int) (L : List Int) : (finT t L).countP p = (L.filter (ne t)).countP p + (if p t = true then 1 else 0) := by
  have := acc_count p t L L.length (Nat.le_refl _)
  rw [List.take_length] at this
  unfold finT
  split
  · rename_i h; simp [h] at this; exact this
  · rename_i h
    simp only [h, if_false, Bool.false_eq_true, false_and, Nat.add_zero] at this
    rw [List.countP_append, this]
    by_cases hp : p t = true <;> simp [hp]
theorem fin_one (t u : Int) (L : List Int) : (finT t L).count u = if u = t then 1 else L.count u := by
  have h1 := fin_count (· == u) t L
  have h2 := countP_split (· == u) t L
  simp only [List.count]
  by_cases h : u = t
  · subst h
    have h0 : List.countP (· == u) (List.filter (ne u) L) = 0 := by
      rw [List.countP_eq_zero]
      intro x hx
      have := (List.mem_filter.1 hx).2
      simp only [ne, decide_eq_true_eq] at this
      simpa using this
    rw [h1, h0]; simp
  · have h3 : (t == u) = false := by simpa using fun e => h e.symm
    simp only [h3, Bool.false_eq_true, if_false, Nat.add_zero] at h1 h2
    rw [h1, if_neg h, h2]
theorem law_inv (k t : Nat → Int) : ∀ n, szN k t n = (thrN t n).countP (inN k t n) ∧ ∀ u, (mapN k t n u).isSome = inN k t n u ∧ (thrN t n).count u ≤ 1 ∧ (inN k t n u = true → (thrN t n).count u = 1)
  | 0 => ⟨rfl, fun u => ⟨rfl, by simp [thrN], fun h => by simp [inN] at h⟩⟩
  | n + 1 => by
    obtain ⟨ih1, ih2⟩ := law_inv k t n
    have hother : ∀ u, u ≠ t n → inN k t (n + 1) u = inN k t n u := fun u hu => by
      simp only [inN]; rw [if_neg fun h => hu h.1.symm]
    have hB : (List.filter (ne (t n)) (thrN t n)).countP (inN k t (n + 1)) = (List.filter (ne (t n)) (thrN t n)).countP (inN k t n) := by
      refine List.countP_congr fun x hx => ?_
      have := (List.mem_filter.1 hx).2
      simp only [ne, decide_eq_true_eq] at this
      rw [hother x this]
    have h1 := fin_count (inN k t (n + 1)) (t n) (thrN t n)
    have h2 := countP_split (inN k t n) (t n) (thrN t n)
    rw [hB] at h1
    have h3 : (if inN k t n (t n) = true then (thrN t n).count (t n) else 0) = (if inN k t n (t n) = true then 1 else 0) := by
      split
      · rename_i h; exact (ih2 _).2.2 h
      · rfl
    rw [h3] at h2
    have hsome := (ih2 (t n)).1
    have hcnt : ∀ u, (thrN t (n + 1)).count u = if u = t n then 1 else (thrN t n).count u := fun u => fin_one (t n) u (thrN t n)
    have hone : ∀ u, (thrN t (n + 1)).count u ≤ 1 ∧ (inN k t (n + 1) u = true → (thrN t (n + 1)).count u = 1) := fun u => by
      rw [hcnt u]
      by_cases hu : u = t n
      · simp [hu]
      · rw [if_neg hu, hother u hu]
        exact ⟨(ih2 u).2.1, (ih2 u).2.2⟩
    have hz : szN k t (n + 1) = turnS (k n) (t n) (mapN k t n) (szN k t n) := rfl
    have hm : mapN k t (n + 1) = turnM (k n) (t n) (mapN k t n) := rfl
    have hthr : thrN t (n + 1) = finT (t n) (thrN t n) := rfl
    refine ⟨?_, fun u => ⟨?_, (hone u).1, (hone u).2⟩⟩
    · rw [hz, hthr, h1, ih1, h2]
      by_cases hq : inQ (k n) = true
      · have hin : inN k t (n + 1) (t n) = true := by
          simp only [inQ, decide_eq_true_eq] at hq
          simp only [inN]; rw [if_pos ⟨trivial, by omega, by omega⟩]; exact decide_eq_true hq
        simp only [turnS, hq, if_true, msz, hin]
        cases hM : mapN k t n (t n) with
        | none => rw [hM] at hsome; simp [← hsome]
        | some x => rw [hM] at hsome; simp [← hsome]
      · have hq' : inQ (k n) = false := by simpa using hq
        by_cases ho : outQ (k n) = true
        · have hin : inN k t (n + 1) (t n) = false := by
            simp only [outQ, decide_eq_true_eq] at ho
            simp only [inN]; rw [if_pos ⟨trivial, by omega, by omega⟩]; exact hq'
          simp only [turnS, hq', ho, Bool.false_eq_true, if_false, if_true, mszd, hin]
          cases hM : mapN k t n (t n) with
          | none => rw [hM] at hsome; simp [← hsome]
          | some x => rw [hM] at hsome; simp [← hsome]
        · have ho' : outQ (k n) = false := by simpa using ho
          have hin : inN k t (n + 1) (t n) = inN k t n (t n) := by
            simp only [inN]; rw [if_neg]
            simp only [outQ, inQ, decide_eq_false_iff_not] at ho' hq'
            omega
          simp only [turnS, hq', ho', Bool.false_eq_true, if_false, hin]
    · rw [hm]
      by_cases hu : u = t n
      · subst hu
        by_cases hq : inQ (k n) = true
        · have hin : inN k t (n + 1) (t n) = true := by
            simp only [inQ, decide_eq_true_eq] at hq
            simp only [inN]; rw [if_pos ⟨trivial, by omega, by omega⟩]; exact decide_eq_true hq
          rw [hin]; simp [turnM, hq, mupd]
        · have hq' : inQ (k n) = false := by simpa using hq
          by_cases ho : outQ (k n) = true
          · have hin : inN k t (n + 1) (t n) = false := by
              simp only [outQ, decide_eq_true_eq] at ho
              simp only [inN]; rw [if_pos ⟨trivial, by omega, by omega⟩]; exact hq'
            rw [hin]; simp [turnM, hq', ho, mupd]
          · have ho' : outQ (k n) = false := by simpa using ho
            have hin : inN k t (n + 1) (t n) = inN k t n (t n) := by
              simp only [inN]; rw [if_neg]
              simp only [outQ, inQ, decide_eq_false_iff_not] at ho' hq'
              omega
            rw [hin, ← hsome]; simp [turnM, hq', ho']
      · rw [hother u hu, ← (ih2 u).1]
        unfold turnM
        split
        · simp [mupd, hu]
        · split
          · simp [mupd, hu]
          · rfl
theorem qu_sz (k t : Nat → Int) (n : Nat) : (quN k t n).length = szN k t n := by
  rw [(law_inv k t n).1, List.countP_eq_length_filter]; rfl
theorem most_mx (k t : Nat → Int) : ∀ n, mostN k t n = mxN k t n
  | 0 => rfl
  | n + 1 => by simp only [mostN, mxN, most_mx k t n, qu_sz]
end Go.Proofs.Ytfkhaicghoiijac
