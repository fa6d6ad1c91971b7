/- Ahead*: the document's threads, and its queue. -/
import Derived.Test.YtfkhaicghoiijacAn
set_option linter.unusedSimpArgs false
set_option linter.unusedVariables false
namespace Go.Proofs.Ytfkhaicghoiijac
open Go Go.Sx

def stepT (t : Int) (p : List Int × Bool) (u : Int) : List Int × Bool :=
  let q := if t ≤ u ∧ p.2 = false then (p.1 ++ [t], true) else p
  if u ≠ t then (q.1 ++ [u], q.2) else q
def accT (t : Int) (L : List Int) : Nat → List Int × Bool
  | 0 => ([], false)
  | j + 1 => stepT t (accT t L j) (L.getD j 0)
def finT (t : Int) (L : List Int) : List Int := if (accT t L L.length).2 = true then (accT t L L.length).1 else (accT t L L.length).1 ++ [t]
def thrN (t : Nat → Int) : Nat → List Int
  | 0 => []
  | i + 1 => finT (t i) (thrN t i)
theorem stepT_len (t u : Int) (j : Nat) : ∀ p : List Int × Bool, p.1.length ≤ j + p.2.toNat → (stepT t p u).1.length ≤ j + 1 + (stepT t p u).2.toNat
  | (l, false), h => by
    unfold stepT
    by_cases h1 : t ≤ u <;> by_cases h2 : u = t <;> simp [h1, h2] at h ⊢ <;> omega
  | (l, true), h => by
    unfold stepT
    by_cases h2 : u = t <;> simp [h2] at h ⊢ <;> omega
theorem accT_len (t : Int) (L : List Int) : ∀ j, (accT t L j).1.length ≤ j + (accT t L j).2.toNat
  | 0 => by simp [accT]
  | j + 1 => stepT_len t _ j _ (accT_len t L j)
theorem toNat_le (b : Bool) : b.toNat ≤ 1 := by cases b <;> decide
theorem finT_len (t : Int) (L : List Int) : (finT t L).length ≤ L.length + 1 := by
  have := accT_len t L L.length
  have h1 := toNat_le (accT t L L.length).2
  unfold finT
  split
  · omega
  · rename_i h
    rw [show (accT t L L.length).2 = false by simpa using h] at this
    simp at this ⊢; omega
theorem thrN_len (t : Nat → Int) : ∀ i, (thrN t i).length ≤ i
  | 0 => Nat.le_refl _
  | i + 1 => by have := thrN_len t i; have := finT_len (t i) (thrN t i); simp only [thrN]; omega
theorem intsZ_snoc2 (A : List Int) (u v : Int) (i : Nat) (h : i < A.length + 1 + 1) : (if i < A.length + 1 then (if i < A.length then intsZ A i else [Value.int .i64 u]) else [Value.int .i64 v]) = intsZ (A ++ [u, v]) i := by
  by_cases h1 : i < A.length
  · have : i < A.length + 1 := by omega
    simp [h1, this, intsZ, List.getElem?_append_left h1]
  · by_cases h2 : i < A.length + 1
    · obtain rfl : i = A.length := by omega
      simp [intsZ]
    · obtain rfl : i = A.length + 1 := by omega
      simp [intsZ]
set_option maxHeartbeats 1000000 in
theorem threads_spec (k t : Nat → Int) (a : Nat → Int) (b : Nat → Bool) (m : Nat) (hm : m ≤ 1000) :
    FSpec Try.prog 13 [(0, some (.ro 4 m (refE k t a b)))] 1 [.l (.s 0 4 0 m 0)] fun x h n => x = .o (.l (.s 1 1 0 (thrN t m).length 0)) ∧ n = 2 ∧ h = [(1, some (.ar 1 (thrN t m).length (intsZ (thrN t m))))] := by
  refine spec_of_ev Try.func13 ic13_eq (rs := [.t 2]) (by kernel_rfl) (by kernel_rfl) (by kernel_rfl) fun G hP hA => ?_
  unfold evF ic13
  conv => whnf
  refine loop_auto (α := Nat) (ds := []) (N := 2) (fun i => [(3, .o (.l (.s 1 1 0 (thrN t i).length 0))), (12, sInt .i64 (i : Int))]) [] (fun i => [(1, some (.ar 1 (thrN t i).length (intsZ (thrN t i))))])
    (fun i => i ≤ m) (fun i => m - i) 0 (Nat.zero_le _) ?_ fun i hi => ?_
  · conv => whnf
    refine Imp.trans (imp_nil 3 1 (intsZ []) rfl) ?_
    (conv => whnf); (refine imp_auto hA ?_; conv => whnf); exact ⟨rfl, rfl, rfl, (by repeat' (first | exact trivial | exact rfl | apply And.intro)), (by repeat' (first | exact trivial | exact rfl | (intro _ _; exact rfl) | (intro _ hj; exact absurd hj (Nat.not_lt_zero _)) | exact Nat.le_refl _ | exact Or.inl (And.intro (fun h => h) rfl) | apply And.intro)), rfl⟩
  · conv => whnf
    refine dsplit (fun h1 => ?_) (fun h1 => ?_)
    · have hL := thrN_len t i
      have hnew : thrN t (i + 1) = finT (t i) (thrN t i) := rfl
      generalize thrN t i = L at *
      conv => whnf
      (repeat' (first | (refine And.intro (by (first | omega | assumption | (simp only [nadd_eq]; omega) | (simp [nadd_eq]; omega))) ?_; conv => whnf) | (refine arI64 (by omega) (by omega) ?_; conv => whnf) | (refine arU32 (by omega) (by omega) ?_; conv => whnf) | (refine arU8 (by omega) (by omega) ?_; conv => whnf)))
      refine loop_auto (α := Nat) (ds := []) (N := 4) (fun j => [(6, .o (.l (.s 3 1 0 (accT (t i) L j).1.length 0))), (7, sBool (accT (t i) L j).2), (18, sInt .i64 (j : Int))]) [] (fun j => [(3, some (.ar 1 (accT (t i) L j).1.length (intsZ (accT (t i) L j).1)))])
        (fun j => j ≤ L.length) (fun j => L.length - j) 0 (Nat.zero_le _) ?_ fun j hj => ?_
      · conv => whnf
        refine Imp.trans (imp_nil 6 1 (intsZ []) rfl) ?_
        (conv => whnf); (refine imp_auto hA ?_; conv => whnf); exact ⟨rfl, rfl, rfl, (by repeat' (first | exact trivial | exact rfl | apply And.intro)), (by repeat' (first | exact trivial | exact rfl | (intro _ _; exact rfl) | (intro _ hj; exact absurd hj (Nat.not_lt_zero _)) | exact Nat.le_refl _ | exact Or.inl (And.intro (fun h => h) rfl) | apply And.intro)), rfl⟩
      · have hlen := accT_len (t i) L j
        have h1b := toNat_le (accT (t i) L j).2
        have hst : accT (t i) L (j + 1) = stepT (t i) (accT (t i) L j) (L.getD j 0) := rfl
        have hfin : j = L.length → finT (t i) L = if (accT (t i) L j).2 = true then (accT (t i) L j).1 else (accT (t i) L j).1 ++ [(t i)] := fun h => by subst h; rfl
        generalize accT (t i) L j = p at *
        obtain ⟨A, put⟩ := p
        simp only at hlen h1b hfin
        conv => whnf
        refine dsplit (fun h2 => ?_) (fun h2 => ?_)
        · conv => whnf
          (refine join_plain ?_; conv => whnf)
          (repeat' (first | (refine And.intro (by (first | omega | assumption | (simp only [nadd_eq]; omega) | (simp [nadd_eq]; omega))) ?_; conv => whnf) | (refine arI64 (by omega) (by omega) ?_; conv => whnf) | (refine arU32 (by omega) (by omega) ?_; conv => whnf) | (refine arU8 (by omega) (by omega) ?_; conv => whnf)))
          have hnj : nadd 0 ((j : Nat) : Int).toNat = j := by simp [nadd_eq]
          rw [hnj]
          generalize L.getD j 0 = v at *
          cases put with
          | false =>
            (refine join_plain ?_; conv => whnf)
            refine dsplit (fun h3 => ?_) (fun h3 => ?_)
            · conv => whnf
              (repeat' (first | (refine And.intro (by (first | omega | assumption | (simp only [nadd_eq]; omega) | (simp [nadd_eq]; omega))) ?_; conv => whnf) | (refine arI64 (by omega) (by omega) ?_; conv => whnf) | (refine arU32 (by omega) (by omega) ?_; conv => whnf) | (refine arU8 (by omega) (by omega) ?_; conv => whnf)))
              refine dsplit (fun h4 => ?_) (fun h4 => ?_)
              · have h3 : (t i) ≤ v := h3
                have h4 : v ≠ (t i) := h4
                conv => whnf
                (repeat' (first | (refine And.intro (by (first | omega | assumption | (simp only [nadd_eq]; omega) | (simp [nadd_eq]; omega))) ?_; conv => whnf) | (refine arI64 (by omega) (by omega) ?_; conv => whnf) | (refine arU32 (by omega) (by omega) ?_; conv => whnf) | (refine arU8 (by omega) (by omega) ?_; conv => whnf)))
                have he : accT (t i) L (j + 1) = (A ++ [(t i), v], true) := by rw [hst]; simp [stepT, h3, h4]
                have hl : (accT (t i) L (j + 1)).1.length = A.length + 1 + 1 := by rw [he]; simp
                have hp : (accT (t i) L (j + 1)).2 = true := by rw [he]
                refine ⟨j + 1, by omega, by omega, ?_⟩
                rw [hl, hp]
                (conv => whnf); (refine imp_auto hA ?_; conv => whnf); refine ⟨rfl, rfl, rfl, (by repeat' (first | exact trivial | exact rfl | apply And.intro)), ?_, rfl⟩
                refine And.intro (And.intro rfl (And.intro rfl fun i2 hi2 => ?_)) (by repeat' (first | exact trivial | exact rfl | (intro _ _; exact rfl) | (intro _ hj; exact absurd hj (Nat.not_lt_zero _)) | exact Nat.le_refl _ | exact Or.inl (And.intro (fun h => h) rfl) | apply And.intro))
                rw [he]
                exact intsZ_snoc2 A (t i) v i2 hi2
              · have h3 : (t i) ≤ v := h3
                have h4 : v = (t i) := Classical.not_not.1 h4
                conv => whnf
                (repeat' (first | (refine And.intro (by (first | omega | assumption | (simp only [nadd_eq]; omega) | (simp [nadd_eq]; omega))) ?_; conv => whnf) | (refine arI64 (by omega) (by omega) ?_; conv => whnf) | (refine arU32 (by omega) (by omega) ?_; conv => whnf) | (refine arU8 (by omega) (by omega) ?_; conv => whnf)))
                have he : accT (t i) L (j + 1) = (A ++ [(t i)], true) := by rw [hst]; simp [stepT, h3, h4]
                have hl : (accT (t i) L (j + 1)).1.length = A.length + 1 := by rw [he]; simp
                have hp : (accT (t i) L (j + 1)).2 = true := by rw [he]
                refine ⟨j + 1, by omega, by omega, ?_⟩
                rw [hl, hp]
                (conv => whnf); (refine imp_auto hA ?_; conv => whnf); refine ⟨rfl, rfl, rfl, (by repeat' (first | exact trivial | exact rfl | apply And.intro)), ?_, rfl⟩
                refine And.intro (And.intro rfl (And.intro rfl fun i2 hi2 => ?_)) (by repeat' (first | exact trivial | exact rfl | (intro _ _; exact rfl) | (intro _ hj; exact absurd hj (Nat.not_lt_zero _)) | exact Nat.le_refl _ | exact Or.inl (And.intro (fun h => h) rfl) | apply And.intro))
                rw [he]
                exact intsZ_snoc A (t i) _ rfl i2 hi2
            · conv => whnf
              refine dsplit (fun h4 => ?_) (fun h4 => ?_)
              · have h3 : ¬ (t i) ≤ v := h3
                have h4 : v ≠ (t i) := h4
                conv => whnf
                (repeat' (first | (refine And.intro (by (first | omega | assumption | (simp only [nadd_eq]; omega) | (simp [nadd_eq]; omega))) ?_; conv => whnf) | (refine arI64 (by omega) (by omega) ?_; conv => whnf) | (refine arU32 (by omega) (by omega) ?_; conv => whnf) | (refine arU8 (by omega) (by omega) ?_; conv => whnf)))
                have he : accT (t i) L (j + 1) = (A ++ [v], false) := by rw [hst]; simp [stepT, h3, h4]
                have hl : (accT (t i) L (j + 1)).1.length = A.length + 1 := by rw [he]; simp
                have hp : (accT (t i) L (j + 1)).2 = false := by rw [he]
                refine ⟨j + 1, by omega, by omega, ?_⟩
                rw [hl, hp]
                (conv => whnf); (refine imp_auto hA ?_; conv => whnf); refine ⟨rfl, rfl, rfl, (by repeat' (first | exact trivial | exact rfl | apply And.intro)), ?_, rfl⟩
                refine And.intro (And.intro rfl (And.intro rfl fun i2 hi2 => ?_)) (by repeat' (first | exact trivial | exact rfl | (intro _ _; exact rfl) | (intro _ hj; exact absurd hj (Nat.not_lt_zero _)) | exact Nat.le_refl _ | exact Or.inl (And.intro (fun h => h) rfl) | apply And.intro))
                rw [he]
                exact intsZ_snoc A v _ rfl i2 hi2
              · have h3 : ¬ (t i) ≤ v := h3
                have h4 : v = (t i) := Classical.not_not.1 h4
                exact absurd (by omega) h3
          | true =>
            (refine join_plain ?_; conv => whnf)
            refine dsplit (fun h3 => ?_) (fun h3 => ?_)
            · conv => whnf
              refine dsplit (fun h4 => ?_) (fun h4 => ?_)
              · have h4 : v ≠ (t i) := h4
                conv => whnf
                (repeat' (first | (refine And.intro (by (first | omega | assumption | (simp only [nadd_eq]; omega) | (simp [nadd_eq]; omega))) ?_; conv => whnf) | (refine arI64 (by omega) (by omega) ?_; conv => whnf) | (refine arU32 (by omega) (by omega) ?_; conv => whnf) | (refine arU8 (by omega) (by omega) ?_; conv => whnf)))
                have he : accT (t i) L (j + 1) = (A ++ [v], true) := by rw [hst]; simp [stepT, h4]
                have hl : (accT (t i) L (j + 1)).1.length = A.length + 1 := by rw [he]; simp
                have hp : (accT (t i) L (j + 1)).2 = true := by rw [he]
                refine ⟨j + 1, by omega, by omega, ?_⟩
                rw [hl, hp]
                (conv => whnf); (refine imp_auto hA ?_; conv => whnf); refine ⟨rfl, rfl, rfl, (by repeat' (first | exact trivial | exact rfl | apply And.intro)), ?_, rfl⟩
                refine And.intro (And.intro rfl (And.intro rfl fun i2 hi2 => ?_)) (by repeat' (first | exact trivial | exact rfl | (intro _ _; exact rfl) | (intro _ hj; exact absurd hj (Nat.not_lt_zero _)) | exact Nat.le_refl _ | exact Or.inl (And.intro (fun h => h) rfl) | apply And.intro))
                rw [he]
                exact intsZ_snoc A v _ rfl i2 hi2
              · have h4 : v = (t i) := Classical.not_not.1 h4
                conv => whnf
                (repeat' (first | (refine And.intro (by (first | omega | assumption | (simp only [nadd_eq]; omega) | (simp [nadd_eq]; omega))) ?_; conv => whnf) | (refine arI64 (by omega) (by omega) ?_; conv => whnf) | (refine arU32 (by omega) (by omega) ?_; conv => whnf) | (refine arU8 (by omega) (by omega) ?_; conv => whnf)))
                have he : accT (t i) L (j + 1) = (A, true) := by rw [hst]; simp [stepT, h4]
                have hl : (accT (t i) L (j + 1)).1.length = A.length := by rw [he]
                have hp : (accT (t i) L (j + 1)).2 = true := by rw [he]
                refine ⟨j + 1, by omega, by omega, ?_⟩
                rw [hl, hp]
                (conv => whnf); (refine imp_auto hA ?_; conv => whnf); refine ⟨rfl, rfl, rfl, (by repeat' (first | exact trivial | exact rfl | apply And.intro)), ?_, rfl⟩
                refine And.intro (And.intro rfl (And.intro rfl fun i2 hi2 => ?_)) (by repeat' (first | exact trivial | exact rfl | (intro _ _; exact rfl) | (intro _ hj; exact absurd hj (Nat.not_lt_zero _)) | exact Nat.le_refl _ | exact Or.inl (And.intro (fun h => h) rfl) | apply And.intro))
                rw [he]
            · conv => whnf
              refine dsplit (fun h4 => ?_) (fun h4 => ?_)
              · have h4 : v ≠ (t i) := h4
                conv => whnf
                (repeat' (first | (refine And.intro (by (first | omega | assumption | (simp only [nadd_eq]; omega) | (simp [nadd_eq]; omega))) ?_; conv => whnf) | (refine arI64 (by omega) (by omega) ?_; conv => whnf) | (refine arU32 (by omega) (by omega) ?_; conv => whnf) | (refine arU8 (by omega) (by omega) ?_; conv => whnf)))
                have he : accT (t i) L (j + 1) = (A ++ [v], true) := by rw [hst]; simp [stepT, h4]
                have hl : (accT (t i) L (j + 1)).1.length = A.length + 1 := by rw [he]; simp
                have hp : (accT (t i) L (j + 1)).2 = true := by rw [he]
                refine ⟨j + 1, by omega, by omega, ?_⟩
                rw [hl, hp]
                (conv => whnf); (refine imp_auto hA ?_; conv => whnf); refine ⟨rfl, rfl, rfl, (by repeat' (first | exact trivial | exact rfl | apply And.intro)), ?_, rfl⟩
                refine And.intro (And.intro rfl (And.intro rfl fun i2 hi2 => ?_)) (by repeat' (first | exact trivial | exact rfl | (intro _ _; exact rfl) | (intro _ hj; exact absurd hj (Nat.not_lt_zero _)) | exact Nat.le_refl _ | exact Or.inl (And.intro (fun h => h) rfl) | apply And.intro))
                rw [he]
                exact intsZ_snoc A v _ rfl i2 hi2
              · have h4 : v = (t i) := Classical.not_not.1 h4
                conv => whnf
                (repeat' (first | (refine And.intro (by (first | omega | assumption | (simp only [nadd_eq]; omega) | (simp [nadd_eq]; omega))) ?_; conv => whnf) | (refine arI64 (by omega) (by omega) ?_; conv => whnf) | (refine arU32 (by omega) (by omega) ?_; conv => whnf) | (refine arU8 (by omega) (by omega) ?_; conv => whnf)))
                have he : accT (t i) L (j + 1) = (A, true) := by rw [hst]; simp [stepT, h4]
                have hl : (accT (t i) L (j + 1)).1.length = A.length := by rw [he]
                have hp : (accT (t i) L (j + 1)).2 = true := by rw [he]
                refine ⟨j + 1, by omega, by omega, ?_⟩
                rw [hl, hp]
                (conv => whnf); (refine imp_auto hA ?_; conv => whnf); refine ⟨rfl, rfl, rfl, (by repeat' (first | exact trivial | exact rfl | apply And.intro)), ?_, rfl⟩
                refine And.intro (And.intro rfl (And.intro rfl fun i2 hi2 => ?_)) (by repeat' (first | exact trivial | exact rfl | (intro _ _; exact rfl) | (intro _ hj; exact absurd hj (Nat.not_lt_zero _)) | exact Nat.le_refl _ | exact Or.inl (And.intro (fun h => h) rfl) | apply And.intro))
                rw [he]
        · replace h2 : ¬ (j : Int) < (L.length : Int) := h2
          have hf := hfin (by omega)
          cases put with
          | false =>
            have hf : finT (t i) L = A ++ [t i] := hf
            have hl : (thrN t (i + 1)).length = A.length + 1 := by rw [hnew, hf]; simp
            conv => whnf
            (refine join_plain ?_; conv => whnf)
            (repeat' (first | (refine And.intro (by (first | omega | assumption | (simp only [nadd_eq]; omega) | (simp [nadd_eq]; omega))) ?_; conv => whnf) | (refine arI64 (by omega) (by omega) ?_; conv => whnf) | (refine arU32 (by omega) (by omega) ?_; conv => whnf) | (refine arU8 (by omega) (by omega) ?_; conv => whnf)))
            refine ⟨i + 1, by omega, by omega, ?_⟩
            rw [hl]
            (conv => whnf); (refine imp_auto hA ?_; conv => whnf); refine ⟨rfl, rfl, rfl, (by repeat' (first | exact trivial | exact rfl | apply And.intro)), ?_, rfl⟩
            refine And.intro (And.intro rfl (And.intro rfl fun i2 hi2 => ?_)) (by repeat' (first | exact trivial | exact rfl | (intro _ _; exact rfl) | (intro _ hj; exact absurd hj (Nat.not_lt_zero _)) | exact Nat.le_refl _ | exact Or.inl (And.intro (fun h => h) rfl) | apply And.intro))
            rw [hnew, hf]
            exact intsZ_snoc A (t i) _ rfl i2 hi2
          | true =>
            have hf : finT (t i) L = A := hf
            have hl : (thrN t (i + 1)).length = A.length := by rw [hnew, hf]
            conv => whnf
            (refine join_plain ?_; conv => whnf)
            (repeat' (first | (refine And.intro (by (first | omega | assumption | (simp only [nadd_eq]; omega) | (simp [nadd_eq]; omega))) ?_; conv => whnf) | (refine arI64 (by omega) (by omega) ?_; conv => whnf) | (refine arU32 (by omega) (by omega) ?_; conv => whnf) | (refine arU8 (by omega) (by omega) ?_; conv => whnf)))
            refine ⟨i + 1, by omega, by omega, ?_⟩
            rw [hl]
            (conv => whnf); (refine imp_auto hA ?_; conv => whnf); refine ⟨rfl, rfl, rfl, (by repeat' (first | exact trivial | exact rfl | apply And.intro)), ?_, rfl⟩
            refine And.intro (And.intro rfl (And.intro rfl fun i2 hi2 => ?_)) (by repeat' (first | exact trivial | exact rfl | (intro _ _; exact rfl) | (intro _ hj; exact absurd hj (Nat.not_lt_zero _)) | exact Nat.le_refl _ | exact Or.inl (And.intro (fun h => h) rfl) | apply And.intro))
            rw [hnew, hf]
    · obtain rfl : i = m := by omega
      conv => whnf
      (refine fin_auto ?_; conv => whnf); exact ⟨rfl, rfl, rfl, rfl, (by repeat' (first | exact trivial | exact rfl | (intro _ _; exact rfl) | (intro _ hj; exact absurd hj (Nat.not_lt_zero _)) | exact Nat.le_refl _ | exact Or.inl (And.intro (fun h => h) rfl) | apply And.intro)), rfl⟩
end Go.Proofs.Ytfkhaicghoiijac
