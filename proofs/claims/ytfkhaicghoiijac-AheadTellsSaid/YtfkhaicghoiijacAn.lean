/- Ahead*: the document's answer. -/
import Derived.Test.YtfkhaicghoiijacAm
set_option linter.unusedSimpArgs false
set_option linter.unusedVariables false
namespace Go.Proofs.Ytfkhaicghoiijac
open Go Go.Sx

def refE (k t : Nat → Int) (a : Nat → Int) (b : Nat → Bool) : Nat → List Value := fun i => [.int .i64 (k i), .int .i64 (t i), .int .i64 (a i), .int .i64 (if b i then 1 else 0)]
def intsZ (l : List Int) : Nat → List Value := fun i => [.int .i64 (l.getD i 0)]
theorem intsZ_snoc (l : List Int) (x : Int) (g : Nat → List Value) (hg : g 0 = [.int .i64 x]) : ∀ j, j < l.length + 1 → (if j < l.length then intsZ l j else g (j - l.length)) = intsZ (l ++ [x]) j := fun j hj => by
  by_cases h : j < l.length
  · simp [h, intsZ, List.getElem?_append_left h]
  · obtain rfl : j = l.length := by omega
    simp [intsZ, hg]
theorem ref_spec (k t : Nat → Int) (a : Nat → Int) (b : Nat → Bool) (m : Nat) (hm : m ≤ 1000) :
    FSpec Try.prog 7 [(0, some (.ro 4 m (entE k t a b)))] 1 [.l (.s 0 4 0 m 0)] fun x h n => x = .o (.l (.s 1 4 0 m 0)) ∧ n = 2 ∧ h = [(1, some (.ar 4 m (refE k t a b)))] := by
  refine spec_of_ev Try.func7 ic7_eq (rs := [.t 2]) (by kernel_rfl) (by kernel_rfl) (by kernel_rfl) fun G hP hA => ?_
  unfold evF ic7
  conv => whnf
  refine loop_auto (α := Nat) (ds := []) (N := 2) (fun i => [(3, .o (.l (.s 1 4 0 i 0))), (9, sInt .i64 (i : Int))]) [] (fun i => [(1, some (.ar 4 i (refE k t a b)))])
    (fun i => i ≤ m) (fun i => m - i) 0 (Nat.zero_le _) ?_ fun i hi => ?_
  · conv => whnf
    refine Imp.trans (imp_nil 3 4 (refE k t a b) rfl) ?_
    (conv => whnf); (refine imp_auto hA ?_; conv => whnf); exact ⟨rfl, rfl, rfl, (by repeat' (first | exact trivial | exact rfl | apply And.intro)), (by repeat' (first | exact trivial | exact rfl | (intro _ _; exact rfl) | (intro _ hj; exact absurd hj (Nat.not_lt_zero _)) | exact Nat.le_refl _ | exact Or.inl (And.intro (fun h => h) rfl) | apply And.intro)), rfl⟩
  · conv => whnf
    refine dsplit (fun h1 => ?_) (fun h1 => ?_)
    · conv => whnf
      (repeat' (first | (refine And.intro (by (first | omega | assumption | (simp only [nadd_eq]; omega) | (simp [nadd_eq]; omega))) ?_; conv => whnf) | (refine arI64 (by omega) (by omega) ?_; conv => whnf) | (refine arU32 (by omega) (by omega) ?_; conv => whnf) | (refine arU8 (by omega) (by omega) ?_; conv => whnf)))
      (refine join_plain ?_; conv => whnf)
      refine bsplit (fun h2 => ?_) (fun h2 => ?_)
      · conv => whnf
        (repeat' (first | (refine And.intro (by (first | omega | assumption | (simp only [nadd_eq]; omega) | (simp [nadd_eq]; omega))) ?_; conv => whnf) | (refine arI64 (by omega) (by omega) ?_; conv => whnf) | (refine arU32 (by omega) (by omega) ?_; conv => whnf) | (refine arU8 (by omega) (by omega) ?_; conv => whnf)))
        refine ⟨i + 1, by omega, by omega, ?_⟩
        (conv => whnf); (refine imp_auto hA ?_; conv => whnf); refine ⟨rfl, rfl, rfl, (by repeat' (first | exact trivial | exact rfl | apply And.intro)), ?_, rfl⟩
        refine And.intro (And.intro rfl (And.intro rfl fun j hj => ?_)) (by repeat' (first | exact trivial | exact rfl | (intro _ _; exact rfl) | (intro _ hj; exact absurd hj (Nat.not_lt_zero _)) | exact Nat.le_refl _ | exact Or.inl (And.intro (fun h => h) rfl) | apply And.intro))
        refine snoc_rows (f := refE k t a b) (i := i) ?_ j hj
        unfold refE
        rw [show b i = true from h2]
        rfl
      · conv => whnf
        (repeat' (first | (refine And.intro (by (first | omega | assumption | (simp only [nadd_eq]; omega) | (simp [nadd_eq]; omega))) ?_; conv => whnf) | (refine arI64 (by omega) (by omega) ?_; conv => whnf) | (refine arU32 (by omega) (by omega) ?_; conv => whnf) | (refine arU8 (by omega) (by omega) ?_; conv => whnf)))
        refine ⟨i + 1, by omega, by omega, ?_⟩
        (conv => whnf); (refine imp_auto hA ?_; conv => whnf); refine ⟨rfl, rfl, rfl, (by repeat' (first | exact trivial | exact rfl | apply And.intro)), ?_, rfl⟩
        refine And.intro (And.intro rfl (And.intro rfl fun j hj => ?_)) (by repeat' (first | exact trivial | exact rfl | (intro _ _; exact rfl) | (intro _ hj; exact absurd hj (Nat.not_lt_zero _)) | exact Nat.le_refl _ | exact Or.inl (And.intro (fun h => h) rfl) | apply And.intro))
        refine snoc_rows (f := refE k t a b) (i := i) ?_ j hj
        unfold refE
        rw [show b i = false from h2]
        rfl
    · obtain rfl : i = m := by omega
      conv => whnf
      (refine fin_auto ?_; conv => whnf); exact ⟨rfl, rfl, rfl, rfl, (by repeat' (first | exact trivial | exact rfl | (intro _ _; exact rfl) | (intro _ hj; exact absurd hj (Nat.not_lt_zero _)) | exact Nat.le_refl _ | exact Or.inl (And.intro (fun h => h) rfl) | apply And.intro)), rfl⟩
def inN (k t : Nat → Int) : Nat → Int → Bool
  | 0, _ => false
  | i + 1, u => if t i = u ∧ 1 ≤ k i ∧ k i ≤ 8 then inQ (k i) else inN k t i u
theorem in_spec (k t : Nat → Int) (a : Nat → Int) (b : Nat → Bool) (m : Nat) (u : Int) (hm : m ≤ 1000) :
    FSpec Try.prog 11 [(0, some (.ro 4 m (refE k t a b)))] 1 [.l (.s 0 4 0 m 0), .l (.v (.int .i64 u))] fun x h n => x = sBool (inN k t m u) ∧ n = 1 ∧ h = [] := by
  refine spec_of_ev Try.func11 ic11_eq (rs := [.t 4]) (by kernel_rfl) (by kernel_rfl) (by kernel_rfl) fun G hP hA => ?_
  unfold evF ic11
  conv => whnf
  refine loop_auto (α := Nat) (ds := []) (N := 1) (fun i => [(5, sBool (inN k t i u)), (10, sInt .i64 (i : Int))]) [] (fun _ => [])
    (fun i => i ≤ m) (fun i => m - i) 0 (Nat.zero_le _) ?_ fun i hi => ?_
  · (conv => whnf); (refine imp_auto hA ?_; conv => whnf); exact ⟨rfl, rfl, rfl, (by repeat' (first | exact trivial | exact rfl | apply And.intro)), (by repeat' (first | exact trivial | exact rfl | (intro _ _; exact rfl) | (intro _ hj; exact absurd hj (Nat.not_lt_zero _)) | exact Nat.le_refl _ | exact Or.inl (And.intro (fun h => h) rfl) | apply And.intro)), rfl⟩
  · have hyes : ∀ c, t i = u → 1 ≤ k i → k i ≤ 8 → inQ (k i) = c → inN k t (i + 1) u = c := fun c h1 h2 h3 h4 => by simp only [inN, if_pos (And.intro h1 (And.intro h2 h3))]; exact h4
    have hno : ¬ (t i = u ∧ 1 ≤ k i ∧ k i ≤ 8) → inN k t (i + 1) u = inN k t i u := fun h => by simp only [inN, if_neg h]
    conv => whnf
    refine dsplit (fun h1 => ?_) (fun h1 => ?_)
    · conv => whnf
      (refine join_plain ?_; conv => whnf)
      (repeat' (first | (refine And.intro (by (first | omega | assumption | (simp only [nadd_eq]; omega) | (simp [nadd_eq]; omega))) ?_; conv => whnf) | (refine arI64 (by omega) (by omega) ?_; conv => whnf) | (refine arU32 (by omega) (by omega) ?_; conv => whnf) | (refine arU8 (by omega) (by omega) ?_; conv => whnf)))
      have hni : nadd 0 ((i : Nat) : Int).toNat = i := by simp [nadd_eq]
      rw [hni]
      (repeat' (first | (refine join_plain ?_; conv => whnf) | (refine dsplit (fun _ => ?_) (fun _ => ?_) <;> conv => whnf)))
      all_goals (repeat' (first | (refine And.intro (by (first | omega | assumption | (simp only [nadd_eq]; omega) | (simp [nadd_eq]; omega))) ?_; conv => whnf) | (refine arI64 (by omega) (by omega) ?_; conv => whnf) | (refine arU32 (by omega) (by omega) ?_; conv => whnf) | (refine arU8 (by omega) (by omega) ?_; conv => whnf)))
      all_goals (refine ⟨i + 1, by omega, by omega, ?_⟩)
      all_goals first
        | (rw [hno (by omega)]; (conv => whnf); (refine imp_auto hA ?_; conv => whnf); exact ⟨rfl, rfl, rfl, (by repeat' (first | exact trivial | exact rfl | apply And.intro)), (by repeat' (first | exact trivial | exact rfl | (intro _ _; exact rfl) | (intro _ hj; exact absurd hj (Nat.not_lt_zero _)) | exact Nat.le_refl _ | exact Or.inl (And.intro (fun h => h) rfl) | apply And.intro)), rfl⟩)
        | (rw [hyes true (by omega) (by omega) (by omega) (decide_eq_true (by omega))]; (conv => whnf); (refine imp_auto hA ?_; conv => whnf); exact ⟨rfl, rfl, rfl, (by repeat' (first | exact trivial | exact rfl | apply And.intro)), (by repeat' (first | exact trivial | exact rfl | (intro _ _; exact rfl) | (intro _ hj; exact absurd hj (Nat.not_lt_zero _)) | exact Nat.le_refl _ | exact Or.inl (And.intro (fun h => h) rfl) | apply And.intro)), rfl⟩)
        | (rw [hyes (decide (k i = 6)) (by omega) (by omega) (by omega) (by unfold inQ; rw [decide_eq_decide]; omega)]; (conv => whnf); (refine imp_auto hA ?_; conv => whnf); exact ⟨rfl, rfl, rfl, (by repeat' (first | exact trivial | exact rfl | apply And.intro)), (by repeat' (first | exact trivial | exact rfl | (intro _ _; exact rfl) | (intro _ hj; exact absurd hj (Nat.not_lt_zero _)) | exact Nat.le_refl _ | exact Or.inl (And.intro (fun h => h) rfl) | apply And.intro)), rfl⟩)
        | trace_state
    · obtain rfl : i = m := by omega
      conv => whnf
      (refine fin_auto ?_; conv => whnf); exact ⟨rfl, rfl, rfl, rfl, (by repeat' (first | exact trivial | exact rfl | (intro _ _; exact rfl) | (intro _ hj; exact absurd hj (Nat.not_lt_zero _)) | exact Nat.le_refl _ | exact Or.inl (And.intro (fun h => h) rfl) | apply And.intro)), rfl⟩
end Go.Proofs.Ytfkhaicghoiijac
