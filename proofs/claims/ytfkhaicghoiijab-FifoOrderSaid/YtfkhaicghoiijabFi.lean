/- FifoOrder: the plain law. -/
import Derived.Test.YtfkhaicghoiijabFh
set_option linter.unusedSimpArgs false
set_option linter.unusedVariables false
namespace Go.Proofs.Ytfkhaicghoiijab
open Go Go.Sx

def code (k : Int) : Int := if k = 1 then 1 else if k = 2 then 2 else if k = 4 then 3 else if k = 6 then 4 else 0
theorem nxt_code (s k : Int) (h : 0 ≤ nxt s k) : nxt s k = code k := by
  unfold nxt at h ⊢; unfold code
  (repeat' split at h) <;> (repeat' split) <;> omega
theorem nxt_two (s k : Int) (h : 0 ≤ nxt s k) : nxt s k = 2 ↔ k = 2 := by
  unfold nxt at h ⊢
  (repeat' split at h) <;> (repeat' split) <;> omega
theorem code_two (k : Int) : code k = 2 ↔ k = 2 := by unfold code; (repeat' split) <;> omega
theorem cnt_all (p : Nat → Bool) : ∀ m i, i < cntN p m → p i = true
  | 0, i, h => by simp [cntN] at h
  | m + 1, i, h => by
    have hl := cntN_le p m
    simp only [cntN] at h
    split at h
    · exact cnt_all p m i h
    · split at h
      · rename_i h1 h2
        by_cases hi : i = m
        · subst hi; exact h2
        · exact cnt_all p m i (by omega)
      · exact cnt_all p m i (by omega)
/-- A state is what the last event of its own left behind. -/
theorem st_last (w : Nat) (k t : Nat → Int) (b : Nat → Bool) : ∀ i, (∀ j, j < i → okN w k t b j = true) → ∀ v : Nat, (v < w → (lkN w k t b i).1 v = code (lastN k t v i)) ∧ (w ≤ v → lastN k t v i = 0)
  | 0, _, v => ⟨fun _ => rfl, fun _ => rfl⟩
  | i + 1, h, v => by
    have ih := st_last w k t b i (fun j hj => h j (by omega)) v
    have hok := h i (by omega)
    simp only [okN] at hok
    have hd := of_decide_eq_true hok
    simp only [lkN, tkS, lastN]
    generalize lkN w k t b i = p at *
    constructor
    · intro hv
      by_cases hc : v = (t i).toNat
      · rw [if_pos ⟨hok, hc⟩, if_pos (by omega), nxt_code _ _ hd.2.2.2.1]
      · rw [if_neg fun hh => hc hh.2, if_neg (by omega)]; exact ih.1 hv
    · intro hv
      rw [if_neg (by omega)]; exact ih.2 hv
/-- Who stands in the queue waits. -/
theorem in_lk (w : Nat) (k t : Nat → Int) (b : Nat → Bool) : ∀ i, ∀ x ∈ (lkN w k t b i).2, 0 ≤ x ∧ (lkN w k t b i).1 x.toNat = 2
  | 0, x, h => by simp [lkN] at h
  | i + 1, x, h => by
    have ih := in_lk w k t b i
    generalize hp : lkN w k t b i = p at *
    simp only [lkN, hp, tkQ] at h
    simp only [lkN, hp, tkS]
    by_cases hok : tkOk w p.1 p.2 (k i) (t i) (b i) = true
    · rw [if_pos hok] at h
      have ht : 0 ≤ t i := (of_decide_eq_true hok).2.1
      rcases List.mem_append.1 h with h | h
      · have hx : x ∈ p.2 ∧ x ≠ t i := by
          split at h
          · exact outN_sub _ _ _ h
          · rename_i hne
            exact ⟨h, fun he => hne (by rw [← he]; exact (ih x h).2)⟩
        have := ih x hx.1
        rw [if_neg fun hh => hx.2 (by omega)]
        exact this
      · split at h
        · rename_i h2
          obtain rfl : x = t i := by simpa using h
          rw [if_pos ⟨hok, rfl⟩]
          exact ⟨ht, h2⟩
        · simp at h
    · rw [if_neg hok] at h
      rw [if_neg fun hh => hok hh.1]
      exact ih x h
theorem quJ_step (k t : Nat → Int) (i : Nat) : ∀ j, j ≤ i → quJ k t (i + 1) j = (quJ k t i j).filter (fun x => decide (x ≠ t i))
  | 0, _ => rfl
  | j + 1, h => by
    have ih := quJ_step k t i j (by omega)
    have he : i + 1 - (j + 1) = (i - (j + 1)) + 1 := by omega
    have hf : freeN t j (i + 1 - (j + 1)) = (freeN t j (i - (j + 1)) && decide (t i ≠ t j)) := by
      rw [he]; simp only [freeN]; rw [show j + 1 + (i - (j + 1)) = i by omega]
    simp only [quJ, ih, hf]
    by_cases h1 : k j = 2 ∧ freeN t j (i - (j + 1)) = true
    · rw [if_pos h1, List.filter_append]
      by_cases h2 : t i = t j
      · simp [h2]
      · have h3 : ¬ t j = t i := fun e => h2 e.symm
        simp [h1.1, h1.2, h2, h3]
    · rw [if_neg h1, if_neg]
      intro hh
      exact h1 ⟨hh.1, by have := hh.2; simp at this; exact this.1⟩
/-- The queue is the document's. -/
theorem qu_lk (w : Nat) (k t : Nat → Int) (b : Nat → Bool) : ∀ i, (∀ j, j < i → okN w k t b j = true) → (lkN w k t b i).2 = quJ k t i i
  | 0, _ => rfl
  | i + 1, h => by
    have ih := qu_lk w k t b i fun j hj => h j (by omega)
    have hin := in_lk w k t b i
    have hok := h i (by omega)
    simp only [okN] at hok
    have hd := of_decide_eq_true hok
    show tkQ w (lkN w k t b i).1 (lkN w k t b i).2 (k i) (t i) (b i) = if k i = 2 ∧ freeN t i (i + 1 - (i + 1)) = true then quJ k t (i + 1) i ++ [t i] else quJ k t (i + 1) i
    rw [quJ_step k t i i (Nat.le_refl _), ← ih]
    generalize lkN w k t b i = p at *
    unfold tkQ
    rw [if_pos hok]
    have hfst : (if p.1 (t i).toNat = 2 then outN p.2 (t i) p.2.length else p.2) = p.2.filter (fun x => decide (x ≠ t i)) := by
      split
      · rw [outN_eq _ _ _ (Nat.le_refl _), List.take_length]
      · rename_i hne
        symm
        rw [List.filter_eq_self]
        intro x hx
        exact decide_eq_true fun he => hne (by rw [← he]; exact (hin x hx).2)
    rw [hfst]
    have h2 := nxt_two _ _ hd.2.2.2.1
    by_cases hk : k i = 2
    · rw [if_pos (h2.2 hk), if_pos ⟨hk, by simp [freeN]⟩]
    · rw [if_neg fun hh => hk (h2.1 hh), if_neg fun hh => hk hh.1, List.append_nil]
/-- Who comes in finds nobody within, and stands in front. -/
theorem law_in (w : Nat) (k t : Nat → Int) (b : Nat → Bool) (m i : Nat) (hi : i < cntN (okN w k t b) m) (hk : k i = 4) :
    (∀ v : Nat, lastN k t v i ≠ 4) ∧ 0 < (quJ k t i i).length ∧ (quJ k t i i).getD 0 0 = t i := by
  have hall := cnt_all (okN w k t b) m
  have hst := st_last w k t b i fun j hj => hall j (by omega)
  have hqu := qu_lk w k t b i fun j hj => hall j (by omega)
  have hin := lk_in w k t b i
  have hok := hall i hi
  simp only [okN] at hok
  have hd := of_decide_eq_true hok
  rw [← hqu]
  generalize lkN w k t b i = p at *
  have h3 : nxt (p.1 (t i).toNat) (k i) = 3 := by
    have := nxt_code _ _ hd.2.2.2.1
    rw [this, hk]; decide
  have h2 : p.1 (t i).toNat = 2 := by
    unfold nxt at h3
    (repeat' split at h3) <;> omega
  have hh := hd.2.2.2.2 h3
  refine ⟨fun v hv => ?_, List.length_pos_of_mem (hin _ h2), hh.1⟩
  by_cases hvw : v < w
  · refine hh.2 ((fstN_ge p.1 3 w).2 ⟨v, hvw, ?_⟩)
    rw [(hst v).1 hvw, hv]; decide
  · have := (hst v).2 (by omega)
    omega
end Go.Proofs.Ytfkhaicghoiijab
