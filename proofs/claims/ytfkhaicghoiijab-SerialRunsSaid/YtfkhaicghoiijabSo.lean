/- SerialOrder: Order of the build. -/
import Derived.Test.YtfkhaicghoiijabSxY
import Derived.Test.YtfkhaicghoiijabSxC
namespace Go.Proofs.Ytfkhaicghoiijab
open Go Go.Sx

theorem follows : Try.prog.follows .mixedOrders = true := by kernel_rfl
def entE (k t : Nat → Int) (a : Nat → Int) (b : Nat → Bool) : Nat → List Value := fun i => [.int .i64 (k i), .int .i64 (t i), .int .i64 (a i), .bool (b i)]
def intsZ (l : List Int) : Nat → List Value := fun i => [.int .i64 (l.getD i 0)]
def ordN (k t : Nat → Int) : Nat → List Int
  | 0 => []
  | n + 1 => if k n = 4 then ordN k t n ++ [t n] else ordN k t n
theorem ordN_len (k t : Nat → Int) : ∀ n, (ordN k t n).length ≤ n
  | 0 => Nat.le_refl _
  | n + 1 => by have := ordN_len k t n; simp only [ordN]; split <;> simp <;> omega
theorem intsZ_snoc (l : List Int) (x : Int) (g : Nat → List Value) (hg : g 0 = [.int .i64 x]) : ∀ j, j < l.length + 1 → (if j < l.length then intsZ l j else g (j - l.length)) = intsZ (l ++ [x]) j := fun j hj => by
  by_cases h : j < l.length
  · simp [h, intsZ, List.getElem?_append_left h]
  · obtain rfl : j = l.length := by omega
    simp [intsZ, hg]
theorem order_spec (k t : Nat → Int) (a : Nat → Int) (b : Nat → Bool) (m : Nat) (hm : m ≤ 1000) :
    FSpec Try.prog 20 [(0, some (.ro 4 m (entE k t a b)))] 1 [.l (.s 0 4 0 m 0)] fun x h n =>
      x = .o (.l (.s 1 1 0 (ordN k t m).length 0)) ∧ n = 2 ∧ h = [(1, some (.ar 1 (ordN k t m).length (intsZ (ordN k t m))))] := by
  refine spec_of_ev Try.func20 ic20_eq (rs := [.t 2]) (by kernel_rfl) (by kernel_rfl) (by kernel_rfl) fun G hP hA => ?_
  unfold evF ic20
  conv => whnf
  refine loop_auto (α := Nat) (ds := []) (N := 2) (fun i => [(3, .o (.l (.s 1 1 0 (ordN k t i).length 0))), (8, sInt .i64 (i : Int))]) [] (fun i => [(1, some (.ar 1 (ordN k t i).length (intsZ (ordN k t i))))])
    (fun i => i ≤ m) (fun i => m - i) 0 (Nat.zero_le _) ?_ fun i hi => ?_
  · conv => whnf
    refine Imp.trans (imp_nil 3 1 (fun _ => []) rfl) ?_
    (conv => whnf); (refine imp_auto hA ?_; conv => whnf); exact ⟨rfl, rfl, rfl, (by repeat' (first | exact trivial | exact rfl | apply And.intro)), (by repeat' (first | exact trivial | exact rfl | (intro _ _; exact rfl) | (intro _ hj; exact absurd hj (Nat.not_lt_zero _)) | exact Nat.le_refl _ | exact Or.inl (Or.inl (And.intro (fun h => h) rfl)) | apply And.intro)), rfl⟩
  · have hl := ordN_len k t i
    have hni : nadd 0 ((i : Nat) : Int).toNat = i := by simp [nadd_eq]
    conv => whnf
    refine dsplit (fun h1 => ?_) (fun h1 => ?_)
    · conv => whnf
      (refine join_plain ?_; conv => whnf)
      (repeat' (first | (refine And.intro (by (first | omega | assumption | (simp only [nadd_eq]; omega) | (simp [nadd_eq]; omega))) ?_; conv => whnf) | (refine arI64 (by omega) (by omega) ?_; conv => whnf) | (refine arU32 (by omega) (by omega) ?_; conv => whnf) | (refine arU8 (by omega) (by omega) ?_; conv => whnf)))
      rw [hni]
      refine dsplit (fun h2 => ?_) (fun h2 => ?_)
      · have ho : ordN k t (i + 1) = ordN k t i ++ [t i] := by simp only [ordN, if_pos h2]
        have hlen : (ordN k t (i + 1)).length = (ordN k t i).length + 1 := by rw [ho]; simp
        conv => whnf
        (repeat' (first | (refine And.intro (by (first | omega | assumption | (simp only [nadd_eq]; omega) | (simp [nadd_eq]; omega))) ?_; conv => whnf) | (refine arI64 (by omega) (by omega) ?_; conv => whnf) | (refine arU32 (by omega) (by omega) ?_; conv => whnf) | (refine arU8 (by omega) (by omega) ?_; conv => whnf)))
        refine ⟨i + 1, by omega, by omega, ?_⟩
        rw [hlen]
        (conv => whnf); (refine imp_auto hA ?_; conv => whnf); refine ⟨rfl, rfl, rfl, (by repeat' (first | exact trivial | exact rfl | apply And.intro)), ?_, rfl⟩
        refine And.intro (And.intro rfl (And.intro rfl fun j hj => ?_)) (by repeat' (first | exact trivial | exact rfl | (intro _ _; exact rfl) | (intro _ hj; exact absurd hj (Nat.not_lt_zero _)) | exact Nat.le_refl _ | exact Or.inl (Or.inl (And.intro (fun h => h) rfl)) | apply And.intro))
        rw [ho]
        exact intsZ_snoc _ _ _ rfl j hj
      · have ho : ordN k t (i + 1) = ordN k t i := by simp only [ordN, if_neg h2]
        conv => whnf
        (repeat' (first | (refine And.intro (by (first | omega | assumption | (simp only [nadd_eq]; omega) | (simp [nadd_eq]; omega))) ?_; conv => whnf) | (refine arI64 (by omega) (by omega) ?_; conv => whnf) | (refine arU32 (by omega) (by omega) ?_; conv => whnf) | (refine arU8 (by omega) (by omega) ?_; conv => whnf)))
        refine ⟨i + 1, by omega, by omega, ?_⟩
        rw [ho]
        (conv => whnf); (refine imp_auto hA ?_; conv => whnf); exact ⟨rfl, rfl, rfl, (by repeat' (first | exact trivial | exact rfl | apply And.intro)), (by repeat' (first | exact trivial | exact rfl | (intro _ _; exact rfl) | (intro _ hj; exact absurd hj (Nat.not_lt_zero _)) | exact Nat.le_refl _ | exact Or.inl (Or.inl (And.intro (fun h => h) rfl)) | apply And.intro)), rfl⟩
    · obtain rfl : i = m := by omega
      conv => whnf
      (refine fin_auto ?_; conv => whnf); exact ⟨rfl, rfl, rfl, rfl, (by repeat' (first | exact trivial | exact rfl | (intro _ _; exact rfl) | (intro _ hj; exact absurd hj (Nat.not_lt_zero _)) | exact Nat.le_refl _ | exact Or.inl (Or.inl (And.intro (fun h => h) rfl)) | apply And.intro)), rfl⟩
end Go.Proofs.Ytfkhaicghoiijab
