/- Fifo*: one is taken out of the queue. -/
import Derived.Test.YtfkhaicghoiijabFb
set_option linter.unusedSimpArgs false
set_option linter.unusedVariables false
namespace Go.Proofs.Ytfkhaicghoiijab
open Go Go.Sx

def entC (k c a : Int) (b : Bool) : List LV := [.v (.int .i64 k), .v (.int .i64 c), .v (.int .i64 a), .v (.bool b)]
def intsZ (l : List Int) : Nat → List Value := fun i => [.int .i64 (l.getD i 0)]
theorem intsZ_snoc (l : List Int) (x : Int) (g : Nat → List Value) (hg : g 0 = [.int .i64 x]) : ∀ j, j < l.length + 1 → (if j < l.length then intsZ l j else g (j - l.length)) = intsZ (l ++ [x]) j := fun j hj => by
  by_cases h : j < l.length
  · simp [h, intsZ, List.getElem?_append_left h]
  · obtain rfl : j = l.length := by omega
    simp [intsZ, hg]
theorem is_spec (k c a : Int) (b : Bool) (x : Int) : FSpec Try.prog 35 [(0, some (.st (entC k c a b)))] 1 [.l (.v (.int .i64 x)), .l (.p 0 0 0 0)] fun y h n => y = sBool (decide (x = c)) ∧ n = 1 ∧ h = [(0, some (.st (entC k c a b)))] := by
  refine spec_of_ev Try.func35 ic35_eq (rs := [.t 3]) (by kernel_rfl) (by kernel_rfl) (by kernel_rfl) fun G hP hA => ?_
  unfold evF ic35
  conv => whnf
  (refine fin_auto ?_; conv => whnf); exact ⟨rfl, rfl, rfl, rfl, (by repeat' (first | exact trivial | exact rfl | (intro _ _; exact rfl) | (intro _ hj; exact absurd hj (Nat.not_lt_zero _)) | exact Nat.le_refl _ | exact Or.inl (And.intro (fun h => h) rfl) | apply And.intro)), rfl⟩
def posN (L : List Int) (c : Int) : Nat → Int
  | 0 => -1
  | n + 1 => if 0 ≤ posN L c n then posN L c n else if L.getD n 0 = c then n else -1
theorem posN_lt (L : List Int) (c : Int) : ∀ n, posN L c n < n ∧ -1 ≤ posN L c n
  | 0 => ⟨by simp [posN], by simp [posN]⟩
  | n + 1 => by
    have := posN_lt L c n
    simp only [posN]
    constructor <;> (repeat' split) <;> omega
theorem posN_mono (L : List Int) (c : Int) (i : Nat) (h : 0 ≤ posN L c i) : ∀ n, posN L c (i + n) = posN L c i
  | 0 => rfl
  | n + 1 => by
    have ih := posN_mono L c i h n
    show (if 0 ≤ posN L c (i + n) then posN L c (i + n) else _) = _
    rw [ih, if_pos h]
theorem indexf_spec (k c a : Int) (b : Bool) (L : List Int) (m : Nat) (hm : m ≤ 1000) : FSpec Try.prog 38 [(0, some (.st (entC k c a b))), (1, some (.ro 1 m (intsZ L)))] 2 [.l (.s 1 1 0 m 0), .l (.c 35 [0])] fun x h n => x = sInt .i64 (posN L c m) ∧ n = 2 ∧ h = [(0, some (.st (entC k c a b)))] := by
  refine spec_of_ev Try.func38 ic38_eq (rs := [.t 4]) (by kernel_rfl) (by kernel_rfl) (by kernel_rfl) fun G hP hA => ?_
  unfold evF ic38
  conv => whnf
  refine loop_auto (α := Nat) (ds := []) (N := 2) (fun i => [(8, sInt .i64 (i : Int))]) [] (fun _ => [(0, some (.st (entC k c a b)))])
    (fun i => i ≤ m ∧ posN L c i = -1) (fun i => m - i) 0 ⟨Nat.zero_le _, rfl⟩ ?_ fun i hi => ?_
  · (conv => whnf); (refine imp_auto hA ?_; conv => whnf); exact ⟨rfl, rfl, rfl, (by repeat' (first | exact trivial | exact rfl | apply And.intro)), (by repeat' (first | exact trivial | exact rfl | (intro _ _; exact rfl) | (intro _ hj; exact absurd hj (Nat.not_lt_zero _)) | exact Nat.le_refl _ | exact Or.inl (And.intro (fun h => h) rfl) | apply And.intro)), rfl⟩
  · obtain ⟨hi, hf⟩ := hi
    have hc := is_spec k c a b (L.getD i 0)
    conv => whnf
    refine dsplit (fun h1 => ?_) (fun h1 => ?_)
    · conv => whnf
      (repeat' (first | (refine And.intro (by (first | omega | assumption | (simp only [nadd_eq]; omega) | (simp [nadd_eq]; omega))) ?_; conv => whnf) | (refine arI64 (by omega) (by omega) ?_; conv => whnf) | (refine arU32 (by omega) (by omega) ?_; conv => whnf) | (refine arU8 (by omega) (by omega) ?_; conv => whnf)))
      (refine call_auto hP (hc) ?_; conv => whnf); (refine ⟨⟨rfl, rfl, rfl, (by repeat' (first | exact trivial | exact rfl | (intro _ _; exact rfl) | (intro _ hj; exact absurd hj (Nat.not_lt_zero _)) | exact Nat.le_refl _ | exact Or.inl (And.intro (fun h => h) rfl) | apply And.intro)), rfl, rfl⟩, ?_⟩; conv => whnf)
      refine dsplit (fun h2 => ?_) (fun h2 => ?_)
      · conv => whnf
        (refine fin_auto ?_; conv => whnf); refine ⟨rfl, rfl, rfl, int_fin ?_, (by repeat' (first | exact trivial | exact rfl | (intro _ _; exact rfl) | (intro _ hj; exact absurd hj (Nat.not_lt_zero _)) | exact Nat.le_refl _ | exact Or.inl (And.intro (fun h => h) rfl) | apply And.intro)), rfl⟩
        obtain ⟨d, rfl⟩ : ∃ d, m = i + 1 + d := ⟨m - (i + 1), by omega⟩
        have he : posN L c (i + 1) = i := by simp only [posN, hf]; rw [if_neg (by omega), if_pos h2]
        rw [posN_mono L c (i + 1) (by omega) d, he]
      · conv => whnf
        (repeat' (first | (refine And.intro (by (first | omega | assumption | (simp only [nadd_eq]; omega) | (simp [nadd_eq]; omega))) ?_; conv => whnf) | (refine arI64 (by omega) (by omega) ?_; conv => whnf) | (refine arU32 (by omega) (by omega) ?_; conv => whnf) | (refine arU8 (by omega) (by omega) ?_; conv => whnf)))
        refine ⟨i + 1, ⟨by omega, ?_⟩, by omega, ?_⟩
        · simp only [posN, hf]; rw [if_neg (by omega), if_neg h2]
        (conv => whnf); (refine imp_auto hA ?_; conv => whnf); exact ⟨rfl, rfl, rfl, (by repeat' (first | exact trivial | exact rfl | apply And.intro)), (by repeat' (first | exact trivial | exact rfl | (intro _ _; exact rfl) | (intro _ hj; exact absurd hj (Nat.not_lt_zero _)) | exact Nat.le_refl _ | exact Or.inl (And.intro (fun h => h) rfl) | apply And.intro)), rfl⟩
    · obtain rfl : i = m := by omega
      conv => whnf
      (refine fin_auto ?_; conv => whnf); refine ⟨rfl, rfl, rfl, int_fin ?_, (by repeat' (first | exact trivial | exact rfl | (intro _ _; exact rfl) | (intro _ hj; exact absurd hj (Nat.not_lt_zero _)) | exact Nat.le_refl _ | exact Or.inl (And.intro (fun h => h) rfl) | apply And.intro)), rfl⟩
      exact hf.symm
end Go.Proofs.Ytfkhaicghoiijab
