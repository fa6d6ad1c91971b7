/- FifoOrder: the document's Ref, Last, Queue. -/
import Derived.Test.YtfkhaicghoiijabFg
set_option linter.unusedSimpArgs false
set_option linter.unusedVariables false
namespace Go.Proofs.Ytfkhaicghoiijab
open Go Go.Sx

def refE (k t a : Nat → Int) (b : Nat → Bool) : Nat → List Value := fun i => [.int .i64 (k i), .int .i64 (t i), .int .i64 (a i), .int .i64 (if b i then 1 else 0)]
theorem ref_spec (k t : Nat → Int) (a : Nat → Int) (b : Nat → Bool) (m : Nat) (hm : m ≤ 1000) :
    FSpec Try.prog 23 [(0, some (.ro 4 m (entE k t a b)))] 1 [.l (.s 0 4 0 m 0)] fun x h n => x = .o (.l (.s 1 4 0 m 0)) ∧ n = 2 ∧ h = [(1, some (.ar 4 m (refE k t a b)))] := by
  refine spec_of_ev Try.func23 ic23_eq (rs := [.t 2]) (by kernel_rfl) (by kernel_rfl) (by kernel_rfl) fun G hP hA => ?_
  unfold evF ic23
  conv => whnf
  refine loop_auto (α := Nat) (ds := []) (N := 2) (fun i => [(3, .o (.l (.s 1 4 0 i 0))), (9, sInt .i64 (i : Int))]) [] (fun i => [(1, some (.ar 4 i (refE k t a b)))])
    (fun i => i ≤ m) (fun i => m - i) 0 (Nat.zero_le _) ?_ fun i hi => ?_
  · conv => whnf
    refine Imp.trans (imp_nil 3 4 (refE k t a b) rfl) ?_
    (conv => whnf); (refine imp_auto hA ?_; conv => whnf); exact ⟨rfl, rfl, rfl, (by repeat' (first | exact trivial | exact rfl | apply And.intro)), (by repeat' (first | exact trivial | exact rfl | (intro _ _; exact rfl) | (intro _ hj; exact absurd hj (Nat.not_lt_zero _)) | exact Nat.le_refl _ | exact Or.inl (And.intro (fun h => h) rfl) | apply And.intro)), rfl⟩
  · conv => whnf
    refine dsplit (fun h1 => ?_) (fun h1 => ?_)
    · conv => whnf
      (repeat' (first | (refine And.intro (by (first | omega | assumption | (simp only [nadd_eq]; omega) | (simp [nadd_eq]; omega))) ?_; conv => whnf) | (refine arI64 (by omega) (by omega) ?_; conv => whnf) | (refine arU32 (by omega) (by omega) ?_; conv => whnf) | (refine arU8 (by omega) (by omega) ?_; conv => whnf)))
      (refine join_plain ?_; conv => whnf)
      refine bsplit (fun h2 => ?_) (fun h2 => ?_)
      · conv => whnf
        (repeat' (first | (refine And.intro (by (first | omega | assumption | (simp only [nadd_eq]; omega) | (simp [nadd_eq]; omega))) ?_; conv => whnf) | (refine arI64 (by omega) (by omega) ?_; conv => whnf) | (refine arU32 (by omega) (by omega) ?_; conv => whnf) | (refine arU8 (by omega) (by omega) ?_; conv => whnf)))
        refine ⟨i + 1, by omega, by omega, ?_⟩
        (conv => whnf); (refine imp_auto hA ?_; conv => whnf); refine ⟨rfl, rfl, rfl, (by repeat' (first | exact trivial | exact rfl | apply And.intro)), ?_, rfl⟩
        refine And.intro (And.intro rfl (And.intro rfl fun j hj => ?_)) (by repeat' (first | exact trivial | exact rfl | (intro _ _; exact rfl) | (intro _ hj; exact absurd hj (Nat.not_lt_zero _)) | exact Nat.le_refl _ | exact Or.inl (And.intro (fun h => h) rfl) | apply And.intro))
        refine snoc_rows (f := refE k t a b) (i := i) ?_ j hj
        unfold refE
        rw [show b i = true from h2]
        rfl
      · conv => whnf
        (repeat' (first | (refine And.intro (by (first | omega | assumption | (simp only [nadd_eq]; omega) | (simp [nadd_eq]; omega))) ?_; conv => whnf) | (refine arI64 (by omega) (by omega) ?_; conv => whnf) | (refine arU32 (by omega) (by omega) ?_; conv => whnf) | (refine arU8 (by omega) (by omega) ?_; conv => whnf)))
        refine ⟨i + 1, by omega, by omega, ?_⟩
        (conv => whnf); (refine imp_auto hA ?_; conv => whnf); refine ⟨rfl, rfl, rfl, (by repeat' (first | exact trivial | exact rfl | apply And.intro)), ?_, rfl⟩
        refine And.intro (And.intro rfl (And.intro rfl fun j hj => ?_)) (by repeat' (first | exact trivial | exact rfl | (intro _ _; exact rfl) | (intro _ hj; exact absurd hj (Nat.not_lt_zero _)) | exact Nat.le_refl _ | exact Or.inl (And.intro (fun h => h) rfl) | apply And.intro))
        refine snoc_rows (f := refE k t a b) (i := i) ?_ j hj
        unfold refE
        rw [show b i = false from h2]
        rfl
    · obtain rfl : i = m := by omega
      conv => whnf
      (refine fin_auto ?_; conv => whnf); exact ⟨rfl, rfl, rfl, rfl, (by repeat' (first | exact trivial | exact rfl | (intro _ _; exact rfl) | (intro _ hj; exact absurd hj (Nat.not_lt_zero _)) | exact Nat.le_refl _ | exact Or.inl (And.intro (fun h => h) rfl) | apply And.intro)), rfl⟩
def lastN (k t : Nat → Int) (v : Int) : Nat → Int
  | 0 => 0
  | i + 1 => if t i = v then k i else lastN k t v i
theorem last_spec (k t a : Nat → Int) (b : Nat → Bool) (v : Int) (m : Nat) (hm : m ≤ 1000) :
    FSpec Try.prog 24 [(0, some (.ro 4 m (refE k t a b)))] 1 [.l (.s 0 4 0 m 0), .l (.v (.int .i64 v))] fun x h n => x = sInt .i64 (lastN k t v m) ∧ n = 1 ∧ h = [] := by
  refine spec_of_ev Try.func24 ic24_eq (rs := [.t 4]) (by kernel_rfl) (by kernel_rfl) (by kernel_rfl) fun G hP hA => ?_
  unfold evF ic24
  conv => whnf
  refine loop_auto (α := Nat) (ds := []) (N := 1) (fun i => [(5, sInt .i64 (lastN k t v i)), (10, sInt .i64 (i : Int))]) [] (fun _ => [])
    (fun i => i ≤ m) (fun i => m - i) 0 (Nat.zero_le _) ?_ fun i hi => ?_
  · (conv => whnf); (refine imp_auto hA ?_; conv => whnf); exact ⟨rfl, rfl, rfl, (by repeat' (first | exact trivial | exact rfl | apply And.intro)), (by repeat' (first | exact trivial | exact rfl | (intro _ _; exact rfl) | (intro _ hj; exact absurd hj (Nat.not_lt_zero _)) | exact Nat.le_refl _ | exact Or.inl (And.intro (fun h => h) rfl) | apply And.intro)), rfl⟩
  · conv => whnf
    refine dsplit (fun h1 => ?_) (fun h1 => ?_)
    · conv => whnf
      (refine join_plain ?_; conv => whnf)
      (repeat' (first | (refine And.intro (by (first | omega | assumption | (simp only [nadd_eq]; omega) | (simp [nadd_eq]; omega))) ?_; conv => whnf) | (refine arI64 (by omega) (by omega) ?_; conv => whnf) | (refine arU32 (by omega) (by omega) ?_; conv => whnf) | (refine arU8 (by omega) (by omega) ?_; conv => whnf)))
      refine dsplit (fun h2 => ?_) (fun h2 => ?_)
      · have he : lastN k t v (i + 1) = k i := by simp only [lastN]; exact if_pos h2
        conv => whnf
        (repeat' (first | (refine And.intro (by (first | omega | assumption | (simp only [nadd_eq]; omega) | (simp [nadd_eq]; omega))) ?_; conv => whnf) | (refine arI64 (by omega) (by omega) ?_; conv => whnf) | (refine arU32 (by omega) (by omega) ?_; conv => whnf) | (refine arU8 (by omega) (by omega) ?_; conv => whnf)))
        refine ⟨i + 1, by omega, by omega, ?_⟩
        rw [he]
        (conv => whnf); (refine imp_auto hA ?_; conv => whnf); exact ⟨rfl, rfl, rfl, (by repeat' (first | exact trivial | exact rfl | apply And.intro)), (by repeat' (first | exact trivial | exact rfl | (intro _ _; exact rfl) | (intro _ hj; exact absurd hj (Nat.not_lt_zero _)) | exact Nat.le_refl _ | exact Or.inl (And.intro (fun h => h) rfl) | apply And.intro)), rfl⟩
      · have he : lastN k t v (i + 1) = lastN k t v i := by simp only [lastN]; exact if_neg h2
        conv => whnf
        (repeat' (first | (refine And.intro (by (first | omega | assumption | (simp only [nadd_eq]; omega) | (simp [nadd_eq]; omega))) ?_; conv => whnf) | (refine arI64 (by omega) (by omega) ?_; conv => whnf) | (refine arU32 (by omega) (by omega) ?_; conv => whnf) | (refine arU8 (by omega) (by omega) ?_; conv => whnf)))
        refine ⟨i + 1, by omega, by omega, ?_⟩
        rw [he]
        (conv => whnf); (refine imp_auto hA ?_; conv => whnf); exact ⟨rfl, rfl, rfl, (by repeat' (first | exact trivial | exact rfl | apply And.intro)), (by repeat' (first | exact trivial | exact rfl | (intro _ _; exact rfl) | (intro _ hj; exact absurd hj (Nat.not_lt_zero _)) | exact Nat.le_refl _ | exact Or.inl (And.intro (fun h => h) rfl) | apply And.intro)), rfl⟩
    · obtain rfl : i = m := by omega
      conv => whnf
      (refine fin_auto ?_; conv => whnf); exact ⟨rfl, rfl, rfl, rfl, (by repeat' (first | exact trivial | exact rfl | (intro _ _; exact rfl) | (intro _ hj; exact absurd hj (Nat.not_lt_zero _)) | exact Nat.le_refl _ | exact Or.inl (And.intro (fun h => h) rfl) | apply And.intro)), rfl⟩
/-- Nothing of t j's comes behind j. -/
def freeN (t : Nat → Int) (j : Nat) : Nat → Bool
  | 0 => true
  | d + 1 => freeN t j d && decide (t (j + 1 + d) ≠ t j)
def quJ (k t : Nat → Int) (m : Nat) : Nat → List Int
  | 0 => []
  | j + 1 => if k j = 2 ∧ freeN t j (m - (j + 1)) = true then quJ k t m j ++ [t j] else quJ k t m j
theorem quJ_len (k t : Nat → Int) (m : Nat) : ∀ j, (quJ k t m j).length ≤ j
  | 0 => Nat.le_refl _
  | j + 1 => by have := quJ_len k t m j; simp only [quJ]; split <;> simp <;> omega
set_option maxHeartbeats 1000000 in
theorem queue_spec (k t a : Nat → Int) (b : Nat → Bool) (m : Nat) (hm : m ≤ 1000) :
    FSpec Try.prog 25 [(0, some (.ro 4 m (refE k t a b)))] 1 [.l (.s 0 4 0 m 0)] fun x h n =>
      x = .o (.l (.s 1 1 0 (quJ k t m m).length 0)) ∧ n = 2 ∧ h = [(1, some (.ar 1 (quJ k t m m).length (intsZ (quJ k t m m))))] := by
  refine spec_of_ev Try.func25 ic25_eq (rs := [.t 2]) (by kernel_rfl) (by kernel_rfl) (by kernel_rfl) fun G hP hA => ?_
  unfold evF ic25
  conv => whnf
  refine loop_auto (α := Nat) (ds := []) (N := 2) (fun i => [(3, .o (.l (.s 1 1 0 (quJ k t m i).length 0))), (10, sInt .i64 (i : Int))]) [] (fun i => [(1, some (.ar 1 (quJ k t m i).length (intsZ (quJ k t m i))))])
    (fun i => i ≤ m) (fun i => m - i) 0 (Nat.zero_le _) ?_ fun i hi => ?_
  · conv => whnf
    refine Imp.trans (imp_nil 3 1 (fun _ => []) rfl) ?_
    (conv => whnf); (refine imp_auto hA ?_; conv => whnf); exact ⟨rfl, rfl, rfl, (by repeat' (first | exact trivial | exact rfl | apply And.intro)), (by repeat' (first | exact trivial | exact rfl | (intro _ _; exact rfl) | (intro _ hj; exact absurd hj (Nat.not_lt_zero _)) | exact Nat.le_refl _ | exact Or.inl (And.intro (fun h => h) rfl) | apply And.intro)), rfl⟩
  · have hl := quJ_len k t m i
    conv => whnf
    refine dsplit (fun h1 => ?_) (fun h1 => ?_)
    · conv => whnf
      (refine join_plain ?_; conv => whnf)
      (repeat' (first | (refine And.intro (by (first | omega | assumption | (simp only [nadd_eq]; omega) | (simp [nadd_eq]; omega))) ?_; conv => whnf) | (refine arI64 (by omega) (by omega) ?_; conv => whnf) | (refine arU32 (by omega) (by omega) ?_; conv => whnf) | (refine arU8 (by omega) (by omega) ?_; conv => whnf)))
      refine dsplit (fun h2 => ?_) (fun h2 => ?_)
      · replace h2 : ¬ k i = 2 := h2
        have ho : quJ k t m (i + 1) = quJ k t m i := by simp only [quJ]; exact if_neg fun h => h2 h.1
        conv => whnf
        (repeat' (first | (refine And.intro (by (first | omega | assumption | (simp only [nadd_eq]; omega) | (simp [nadd_eq]; omega))) ?_; conv => whnf) | (refine arI64 (by omega) (by omega) ?_; conv => whnf) | (refine arU32 (by omega) (by omega) ?_; conv => whnf) | (refine arU8 (by omega) (by omega) ?_; conv => whnf)))
        refine ⟨i + 1, by omega, by omega, ?_⟩
        rw [ho]
        (conv => whnf); (refine imp_auto hA ?_; conv => whnf); exact ⟨rfl, rfl, rfl, (by repeat' (first | exact trivial | exact rfl | apply And.intro)), (by repeat' (first | exact trivial | exact rfl | (intro _ _; exact rfl) | (intro _ hj; exact absurd hj (Nat.not_lt_zero _)) | exact Nat.le_refl _ | exact Or.inl (And.intro (fun h => h) rfl) | apply And.intro)), rfl⟩
      · replace h2 : k i = 2 := Decidable.byContradiction h2
        conv => whnf
        (repeat' (first | (refine And.intro (by (first | omega | assumption | (simp only [nadd_eq]; omega) | (simp [nadd_eq]; omega))) ?_; conv => whnf) | (refine arI64 (by omega) (by omega) ?_; conv => whnf) | (refine arU32 (by omega) (by omega) ?_; conv => whnf) | (refine arU8 (by omega) (by omega) ?_; conv => whnf)))
        refine loop_auto (α := Nat) (ds := []) (N := 3) (fun d => [(6, sBool (freeN t i d)), (7, sInt .i64 ((i + 1 + d : Nat) : Int))]) [] (fun _ => [])
          (fun d => i + 1 + d ≤ m) (fun d => m - d) 0 (by omega) ?_ fun d hd => ?_
        · (conv => whnf); (refine imp_auto hA ?_; conv => whnf); exact ⟨rfl, rfl, rfl, (by repeat' (first | exact trivial | exact rfl | apply And.intro)), (by repeat' (first | exact trivial | exact rfl | (intro _ _; exact rfl) | (intro _ hj; exact absurd hj (Nat.not_lt_zero _)) | exact Nat.le_refl _ | exact Or.inl (And.intro (fun h => h) rfl) | apply And.intro)), rfl⟩
        · have hfr : freeN t i (d + 1) = (freeN t i d && decide (t (i + 1 + d) ≠ t i)) := rfl
          conv => whnf
          refine dsplit (fun h3 => ?_) (fun h3 => ?_)
          · conv => whnf
            (refine drawP_intro (by rw [hP]; exact follows) (by kernel_rfl) ?_; conv => whnf)
            refine bsplit (fun h4 => ?_) (fun h4 => ?_)
            · rw [h4, Bool.true_and] at hfr
              conv => whnf
              (repeat' (first | (refine And.intro (by (first | omega | assumption | (simp only [nadd_eq]; omega) | (simp [nadd_eq]; omega))) ?_; conv => whnf) | (refine arI64 (by omega) (by omega) ?_; conv => whnf) | (refine arU32 (by omega) (by omega) ?_; conv => whnf) | (refine arU8 (by omega) (by omega) ?_; conv => whnf)))
              refine ⟨d + 1, by omega, by omega, ?_⟩
              rw [hfr]
              (conv => whnf); (refine imp_auto hA ?_; conv => whnf); exact ⟨rfl, rfl, rfl, (by repeat' (first | exact trivial | exact rfl | apply And.intro)), (by repeat' (first | exact trivial | exact rfl | (intro _ _; exact rfl) | (intro _ hj; exact absurd hj (Nat.not_lt_zero _)) | exact Nat.le_refl _ | exact Or.inl (And.intro (fun h => h) rfl) | apply And.intro)), rfl⟩
            · rw [h4, Bool.false_and] at hfr
              conv => whnf
              (repeat' (first | (refine And.intro (by (first | omega | assumption | (simp only [nadd_eq]; omega) | (simp [nadd_eq]; omega))) ?_; conv => whnf) | (refine arI64 (by omega) (by omega) ?_; conv => whnf) | (refine arU32 (by omega) (by omega) ?_; conv => whnf) | (refine arU8 (by omega) (by omega) ?_; conv => whnf)))
              refine ⟨d + 1, by omega, by omega, ?_⟩
              rw [hfr]
              (conv => whnf); (refine imp_auto hA ?_; conv => whnf); exact ⟨rfl, rfl, rfl, (by repeat' (first | exact trivial | exact rfl | apply And.intro)), (by repeat' (first | exact trivial | exact rfl | (intro _ _; exact rfl) | (intro _ hj; exact absurd hj (Nat.not_lt_zero _)) | exact Nat.le_refl _ | exact Or.inl (And.intro (fun h => h) rfl) | apply And.intro)), rfl⟩
          · have hdm : d = m - (i + 1) := by omega
            rw [hdm]
            conv => whnf
            refine bsplit (fun h4 => ?_) (fun h4 => ?_)
            · have ho : quJ k t m (i + 1) = quJ k t m i ++ [t i] := by simp only [quJ]; exact if_pos ⟨h2, h4⟩
              have hlen : (quJ k t m (i + 1)).length = (quJ k t m i).length + 1 := by rw [ho]; simp
              conv => whnf
              (repeat' (first | (refine And.intro (by (first | omega | assumption | (simp only [nadd_eq]; omega) | (simp [nadd_eq]; omega))) ?_; conv => whnf) | (refine arI64 (by omega) (by omega) ?_; conv => whnf) | (refine arU32 (by omega) (by omega) ?_; conv => whnf) | (refine arU8 (by omega) (by omega) ?_; conv => whnf)))
              refine ⟨i + 1, by omega, by omega, ?_⟩
              rw [hlen]
              (conv => whnf); (refine imp_auto hA ?_; conv => whnf); refine ⟨rfl, rfl, rfl, (by repeat' (first | exact trivial | exact rfl | apply And.intro)), ?_, rfl⟩
              refine And.intro (And.intro rfl (And.intro rfl fun j hj => ?_)) (by repeat' (first | exact trivial | exact rfl | (intro _ _; exact rfl) | (intro _ hj; exact absurd hj (Nat.not_lt_zero _)) | exact Nat.le_refl _ | exact Or.inl (And.intro (fun h => h) rfl) | apply And.intro))
              rw [ho]
              exact intsZ_snoc _ _ _ rfl j hj
            · have ho : quJ k t m (i + 1) = quJ k t m i := by simp only [quJ]; exact if_neg fun h => by rw [h4] at h; exact Bool.false_ne_true h.2
              conv => whnf
              (repeat' (first | (refine And.intro (by (first | omega | assumption | (simp only [nadd_eq]; omega) | (simp [nadd_eq]; omega))) ?_; conv => whnf) | (refine arI64 (by omega) (by omega) ?_; conv => whnf) | (refine arU32 (by omega) (by omega) ?_; conv => whnf) | (refine arU8 (by omega) (by omega) ?_; conv => whnf)))
              refine ⟨i + 1, by omega, by omega, ?_⟩
              rw [ho]
              (conv => whnf); (refine imp_auto hA ?_; conv => whnf); exact ⟨rfl, rfl, rfl, (by repeat' (first | exact trivial | exact rfl | apply And.intro)), (by repeat' (first | exact trivial | exact rfl | (intro _ _; exact rfl) | (intro _ hj; exact absurd hj (Nat.not_lt_zero _)) | exact Nat.le_refl _ | exact Or.inl (And.intro (fun h => h) rfl) | apply And.intro)), rfl⟩
    · obtain rfl : i = m := by omega
      conv => whnf
      (refine fin_auto ?_; conv => whnf); exact ⟨rfl, rfl, rfl, rfl, (by repeat' (first | exact trivial | exact rfl | (intro _ _; exact rfl) | (intro _ hj; exact absurd hj (Nat.not_lt_zero _)) | exact Nat.le_refl _ | exact Or.inl (And.intro (fun h => h) rfl) | apply And.intro)), rfl⟩
end Go.Proofs.Ytfkhaicghoiijab
