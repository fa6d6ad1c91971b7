/- Fifo*: DeleteFunc. -/
import Derived.Test.YtfkhaicghoiijabFc
set_option linter.unusedSimpArgs false
set_option linter.unusedVariables false
namespace Go.Proofs.Ytfkhaicghoiijab
open Go Go.Sx

def outN (L : List Int) (c : Int) : Nat → List Int
  | 0 => []
  | i + 1 => if L.getD i 0 = c then outN L c i else outN L c i ++ [L.getD i 0]
theorem outN_len (L : List Int) (c : Int) : ∀ i, (outN L c i).length ≤ i
  | 0 => Nat.le_refl _
  | i + 1 => by have := outN_len L c i; simp only [outN]; split <;> simp <;> omega
theorem outN_eq (L : List Int) (c : Int) : ∀ i, i ≤ L.length → outN L c i = (L.take i).filter (fun x => decide (x ≠ c))
  | 0, _ => by simp [outN]
  | i + 1, h => by
    have hi : i < L.length := by omega
    rw [List.take_succ_eq_append_getElem hi, List.filter_append]
    simp only [outN, outN_eq L c i (by omega)]
    have hg : L.getD i 0 = L[i] := by simp [hi]
    rw [hg]
    by_cases hp : L[i] = c <;> simp [hp]
/-- Nothing of it yet: all is kept. -/
theorem outN_all (L : List Int) (c : Int) : ∀ i, i ≤ L.length → posN L c i = -1 → outN L c i = L.take i
  | 0, _, _ => by simp [outN]
  | i + 1, h, hp => by
    have hi : i < L.length := by omega
    have hg : L.getD i 0 = L[i] := by simp [hi]
    simp only [posN] at hp
    have h1 : ¬ 0 ≤ posN L c i := fun hh => by rw [if_pos hh] at hp; omega
    rw [if_neg h1] at hp
    have h2 : ¬ L.getD i 0 = c := fun hh => by rw [if_pos hh] at hp; omega
    have h3 := posN_lt L c i
    simp only [outN, if_neg h2]
    rw [outN_all L c i (by omega) (by omega), List.take_succ_eq_append_getElem hi, hg]
/-- .. at the first one: it is left out. -/
theorem posN_at (L : List Int) (c : Int) : ∀ i, 0 ≤ posN L c i → ∃ q : Nat, posN L c i = q ∧ q < i ∧ L.getD q 0 = c ∧ posN L c q = -1
  | 0, h => by simp [posN] at h
  | i + 1, h => by
    by_cases h1 : 0 ≤ posN L c i
    · obtain ⟨q, h2, h3, h4, h5⟩ := posN_at L c i h1
      exact ⟨q, by simp only [posN]; rw [if_pos h1]; exact h2, by omega, h4, h5⟩
    · simp only [posN, if_neg h1] at h ⊢
      have h3 := posN_lt L c i
      by_cases h2 : L.getD i 0 = c
      · rw [if_pos h2]; exact ⟨i, rfl, by omega, h2, by omega⟩
      · rw [if_neg h2] at h; omega
def arrD (L : List Int) (c : Int) (j : Nat) : Nat → List Value := fun p => [.int .i64 (if p < (outN L c j).length then (outN L c j).getD p 0 else L.getD p 0)]
theorem arrD_start (L : List Int) (c : Int) (q : Nat) (hq : q < L.length) (h1 : L.getD q 0 = c) (h2 : posN L c q = -1) (p : Nat) (hp : p < L.length) : intsZ L p = arrD L c (q + 1) p := by
  have h3 : outN L c (q + 1) = L.take q := by simp only [outN, if_pos h1]; exact outN_all L c q (by omega) h2
  unfold arrD intsZ
  rw [h3]
  by_cases hpq : p < (L.take q).length
  · rw [if_pos hpq]
    have : p < q := by simp at hpq; omega
    simp [List.getElem?_take, this]
  · rw [if_neg hpq]
theorem arrD_end (L : List Int) (c : Int) (j p : Nat) (hp : p < (outN L c j).length) : arrD L c j p = intsZ (outN L c j) p := by
  unfold arrD intsZ; rw [if_pos hp]
theorem arrD_step (L : List Int) (c : Int) (j p : Nat) (v : Int) (hv : v = L.getD j 0) (ho : outN L c (j + 1) = outN L c j ++ [L.getD j 0]) :
    mrgL (p = (outN L c j).length) (setMany (arrD L c j p) 0 [Value.int .i64 v]) (arrD L c j p) = arrD L c (j + 1) p := by
  subst hv
  rw [mrgL_eq _ _ _ (by rw [setMany_length])]
  have hs : setMany (arrD L c j p) 0 [Value.int .i64 (L.getD j 0)] = [Value.int .i64 (L.getD j 0)] := rfl
  rw [hs]
  unfold arrD
  rw [ho]
  by_cases h : p = (outN L c j).length
  · rw [if_pos h, h]; simp
  · rw [if_neg h]
    by_cases h2 : p < (outN L c j).length
    · have : p < (outN L c j ++ [L.getD j 0]).length := by simp; omega
      rw [if_pos h2, if_pos this]; simp [List.getElem?_append_left h2]
    · have : ¬ p < (outN L c j ++ [L.getD j 0]).length := by simp; omega
      rw [if_neg h2, if_neg this]
set_option maxHeartbeats 1000000 in
theorem delete_spec (k c a : Int) (b : Bool) (L : List Int) (hm : L.length ≤ 1000) : FSpec Try.prog 34 [(0, some (.st (entC k c a b))), (1, some (.ar 1 L.length (intsZ L)))] 2 [.l (.s 1 1 0 L.length 0), .l (.c 35 [0])] fun x h n =>
    x = .o (.l (.s 1 1 0 (outN L c L.length).length 0)) ∧ n = 2 ∧ h = [(0, some (.st (entC k c a b))), (1, some (.ar 1 (outN L c L.length).length (intsZ (outN L c L.length))))] := by
  have hx := indexf_spec k c a b L L.length hm
  have hpl := posN_lt L c L.length
  have hall := outN_all L c L.length (Nat.le_refl _)
  rw [List.take_length] at hall
  have hat := posN_at L c L.length
  refine spec_of_ev Try.func34 ic34_eq (rs := [.t 4]) (by kernel_rfl) (by kernel_rfl) (by kernel_rfl) fun G hP hA => ?_
  unfold evF ic34
  conv => whnf
  (refine call_auto hP (hx) ?_; conv => whnf); (refine ⟨⟨rfl, rfl, rfl, (by repeat' (first | exact trivial | exact rfl | (intro _ _; exact rfl) | (intro _ hj; exact absurd hj (Nat.not_lt_zero _)) | exact Nat.le_refl _ | exact Or.inl (And.intro (fun h => h) rfl) | apply And.intro)), rfl, rfl⟩, ?_⟩; conv => whnf)
  refine dsplit (fun h1 => ?_) (fun h1 => ?_)
  · rw [hall h1]
    conv => whnf
    (refine fin_auto ?_; conv => whnf); exact ⟨rfl, rfl, rfl, rfl, (by repeat' (first | exact trivial | exact rfl | (intro _ _; exact rfl) | (intro _ hj; exact absurd hj (Nat.not_lt_zero _)) | exact Nat.le_refl _ | exact Or.inl (And.intro (fun h => h) rfl) | apply And.intro)), rfl⟩
  · obtain ⟨q, hq, hql, hqc, hqp⟩ := hat (by omega)
    rw [hq]
    conv => whnf
    (repeat' (first | (refine And.intro (by (first | omega | assumption | (simp only [nadd_eq]; omega) | (simp [nadd_eq]; omega))) ?_; conv => whnf) | (refine arI64 (by omega) (by omega) ?_; conv => whnf) | (refine arU32 (by omega) (by omega) ?_; conv => whnf) | (refine arU8 (by omega) (by omega) ?_; conv => whnf)))
    refine loop_auto (α := Nat) (ds := []) (N := 2) (fun j => [(5, sInt .i64 ((outN L c j).length : Int)), (6, sInt .i64 (j : Int))]) [] (fun j => [(1, some (.ar 1 L.length (arrD L c j)))])
      (fun j => j ≤ L.length) (fun j => L.length - j) (q + 1) (by omega) ?_ fun j hj => ?_
    · have hq0 : (outN L c (q + 1)).length = q := by simp only [outN, if_pos hqc]; rw [outN_all L c q (by omega) hqp]; simp; omega
      rw [hq0]
      (conv => whnf); (refine imp_auto hA ?_; conv => whnf); refine ⟨rfl, rfl, rfl, (by repeat' (first | exact trivial | exact rfl | apply And.intro)), ?_, rfl⟩
      exact And.intro (And.intro rfl (And.intro rfl fun p hp => arrD_start L c q hql hqc hqp p hp)) (by repeat' (first | exact trivial | exact rfl | (intro _ _; exact rfl) | (intro _ hj; exact absurd hj (Nat.not_lt_zero _)) | exact Nat.le_refl _ | exact Or.inl (And.intro (fun h => h) rfl) | apply And.intro))
    · have hol := outN_len L c j
      have hc := is_spec k c a b (if j < (outN L c j).length then (outN L c j).getD j 0 else L.getD j 0)
      conv => whnf
      refine dsplit (fun h2 => ?_) (fun h2 => ?_)
      · conv => whnf
        (refine join_plain ?_; conv => whnf)
        (repeat' (first | (refine And.intro (by (first | omega | assumption | (simp only [nadd_eq]; omega) | (simp [nadd_eq]; omega))) ?_; conv => whnf) | (refine arI64 (by omega) (by omega) ?_; conv => whnf) | (refine arU32 (by omega) (by omega) ?_; conv => whnf) | (refine arU8 (by omega) (by omega) ?_; conv => whnf)))
        (refine call_auto hP (hc) ?_; conv => whnf); (refine ⟨⟨rfl, rfl, rfl, (by repeat' (first | exact trivial | exact rfl | (intro _ _; exact rfl) | (intro _ hj; exact absurd hj (Nat.not_lt_zero _)) | exact Nat.le_refl _ | exact Or.inl (And.intro (fun h => h) rfl) | apply And.intro)), rfl, rfl⟩, ?_⟩; conv => whnf)
        have hv : (if j < (outN L c j).length then (outN L c j).getD j 0 else L.getD j 0) = L.getD j 0 := if_neg (by omega)
        rw [hv]
        refine nbsplit (fun h3 => ?_) (fun h3 => ?_)
        · replace h3 : ¬ L.getD j 0 = c := of_decide_eq_false h3
          have ho : outN L c (j + 1) = outN L c j ++ [L.getD j 0] := by simp only [outN, if_neg h3]
          have hlen : (outN L c (j + 1)).length = (outN L c j).length + 1 := by rw [ho]; simp
          conv => whnf
          (repeat' (first | (refine And.intro (by (first | omega | assumption | (simp only [nadd_eq]; omega) | (simp [nadd_eq]; omega))) ?_; conv => whnf) | (refine arI64 (by omega) (by omega) ?_; conv => whnf) | (refine arU32 (by omega) (by omega) ?_; conv => whnf) | (refine arU8 (by omega) (by omega) ?_; conv => whnf)))
          refine ⟨j + 1, by omega, by omega, ?_⟩
          rw [hlen]
          (conv => whnf); (refine imp_auto hA ?_; conv => whnf); refine ⟨rfl, rfl, rfl, (by repeat' (first | exact trivial | exact rfl | apply And.intro)), ?_, rfl⟩
          refine And.intro (And.intro rfl (And.intro rfl fun p hp => ?_)) (by repeat' (first | exact trivial | exact rfl | (intro _ _; exact rfl) | (intro _ hj; exact absurd hj (Nat.not_lt_zero _)) | exact Nat.le_refl _ | exact Or.inl (And.intro (fun h => h) rfl) | apply And.intro))
          exact arrD_step L c j p _ hv ho
        · replace h3 : L.getD j 0 = c := of_decide_eq_true h3
          have ho : outN L c (j + 1) = outN L c j := by simp only [outN, if_pos h3]
          conv => whnf
          (repeat' (first | (refine And.intro (by (first | omega | assumption | (simp only [nadd_eq]; omega) | (simp [nadd_eq]; omega))) ?_; conv => whnf) | (refine arI64 (by omega) (by omega) ?_; conv => whnf) | (refine arU32 (by omega) (by omega) ?_; conv => whnf) | (refine arU8 (by omega) (by omega) ?_; conv => whnf)))
          refine ⟨j + 1, by omega, by omega, ?_⟩
          rw [ho]
          (conv => whnf); (refine imp_auto hA ?_; conv => whnf); refine ⟨rfl, rfl, rfl, (by repeat' (first | exact trivial | exact rfl | apply And.intro)), ?_, rfl⟩
          refine And.intro (And.intro rfl (And.intro rfl fun p hp => ?_)) (by repeat' (first | exact trivial | exact rfl | (intro _ _; exact rfl) | (intro _ hj; exact absurd hj (Nat.not_lt_zero _)) | exact Nat.le_refl _ | exact Or.inl (And.intro (fun h => h) rfl) | apply And.intro))
          unfold arrD; rw [ho]
      · obtain rfl : j = L.length := by omega
        conv => whnf
        (repeat' (first | (refine And.intro (by (first | omega | assumption | (simp only [nadd_eq]; omega) | (simp [nadd_eq]; omega))) ?_; conv => whnf) | (refine arI64 (by omega) (by omega) ?_; conv => whnf) | (refine arU32 (by omega) (by omega) ?_; conv => whnf) | (refine arU8 (by omega) (by omega) ?_; conv => whnf)))
        refine esc_clear (row := (outN L c L.length).length) (len := L.length - (outN L c L.length).length) (m := L.length) (f := arrD L c L.length) (el := 3) (zv := .int .i64 0) (by rw [hP]; kernel_rfl) (by rw [hP]; kernel_rfl) rfl rfl rfl (by omega) ?_
        conv => whnf
        (repeat' (first | (refine And.intro (by (first | omega | assumption | (simp only [nadd_eq]; omega) | (simp [nadd_eq]; omega))) ?_; conv => whnf) | (refine arI64 (by omega) (by omega) ?_; conv => whnf) | (refine arU32 (by omega) (by omega) ?_; conv => whnf) | (refine arU8 (by omega) (by omega) ?_; conv => whnf)))
        (refine fin_auto ?_; conv => whnf); refine ⟨rfl, rfl, rfl, ?_, ?_, rfl⟩
        · rfl
        · refine And.intro rfl (And.intro (And.intro rfl (And.intro rfl fun p hp => arrD_end L c L.length p hp)) (by repeat' (first | exact trivial | exact rfl | (intro _ _; exact rfl) | (intro _ hj; exact absurd hj (Nat.not_lt_zero _)) | exact Nat.le_refl _ | exact Or.inl (And.intro (fun h => h) rfl) | apply And.intro)))
end Go.Proofs.Ytfkhaicghoiijab
