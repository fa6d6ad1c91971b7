/- Locks: homes looked through; seats and plans, made. -/
import Derived.Test.YtmccmanekbiadaaDoorSxPK
import Derived.Test.YtmccmanekbiadaaDoorSxC
import Derived.Test.YtmccmanekbiadaaDoorSxV
set_option linter.unusedSimpArgs false
set_option linter.unusedVariables false
namespace Go.Proofs.YtmccmanekbiadaaDoor
open Go Go.Sx

theorem follows : Tryd.prog.follows .mixedOrders = true := by kernel_rfl
def numE (h : Nat → Int) : Nat → List Value := fun i => [.int .i64 (h i)]
def badH (v : Int) : Bool := decide (v < 0) || decide (8 ≤ v)
/-- Where the first one is of which p is true; -1: there is none. -/
def findZ (p : Int → Bool) (h : Nat → Int) : Nat → Nat → Int
  | _, 0 => -1
  | i, m + 1 => if p (h i) = true then (i : Int) else findZ p h (i + 1) m
def anyZ (p : Int → Bool) (h : Nat → Int) : Nat → Bool
  | 0 => false
  | m + 1 => anyZ p h m || p (h m)
theorem anyZ_shift (p : Int → Bool) : ∀ (m : Nat) (g : Nat → Int), anyZ p g (m + 1) = (p (g 0) || anyZ p (fun j => g (j + 1)) m)
  | 0, g => by simp [anyZ]
  | m + 1, g => by rw [anyZ, anyZ_shift p m g, anyZ, Bool.or_assoc]
theorem find_any (p : Int → Bool) (h : Nat → Int) : ∀ m i, 0 ≤ findZ p h i m ↔ anyZ p (fun j => h (i + j)) m = true
  | 0, i => by simp [findZ, anyZ]
  | m + 1, i => by
    rw [anyZ_shift, findZ]
    by_cases hp : p (h i) = true
    · rw [if_pos hp]
      simp [hp]
    · rw [if_neg hp, find_any p h m (i + 1)]
      have hp' : p (h i) = false := Bool.eq_false_iff.2 hp
      simp only [Nat.add_zero, hp', Bool.false_or]
      rw [show (fun j => h (i + 1 + j)) = fun j => h (i + (j + 1)) from funext fun j => by congr 1; omega]
theorem indexf_spec (f : FuncId) (p : Int → Bool) (hf : ∀ v, FSpec Tryd.prog f [] 0 [.l (.v (.int .i64 v))] fun x h n => x = sBool (p v) ∧ n = 0 ∧ h = []) (h : Nat → Int) (m : Nat) (hm : m ≤ 1000000) :
    FSpec Tryd.prog 69 [(0, some (.ro 1 m (numE h)))] 1 [.l (.s 0 1 0 m 0), .l (.c f [])] fun x h' n => x = sInt .i64 (findZ p h 0 m) ∧ n = 1 ∧ h' = [] := by
  refine spec_of_ev Tryd.func69 ic69_eq (rs := [.t 4]) (by kernel_rfl) (by kernel_rfl) (by kernel_rfl) fun G hP hA => ?_
  unfold evF ic69
  conv => whnf
  refine loop_auto (α := Nat) (ds := []) (N := 1) (fun i => [(8, sInt .i64 (i : Int))]) [] (fun _ => [])
    (fun i => i ≤ m ∧ findZ p h 0 m = findZ p h i (m - i)) (fun i => m - i) 0 ⟨Nat.zero_le _, rfl⟩ ?_ fun i hi => ?_
  · (conv => whnf); (refine imp_auto hA ?_; conv => whnf); exact ⟨rfl, rfl, rfl, (by repeat' (first | exact trivial | exact rfl | apply And.intro)), (by repeat' (first | exact trivial | exact rfl | (intro _ _; exact rfl) | (intro _ hj; exact absurd hj (Nat.not_lt_zero _)) | exact Nat.le_refl _ | exact Or.inl (Or.inl (And.intro (fun h => h) rfl)) | exact Or.inl rfl | apply And.intro)), rfl⟩
  · obtain ⟨hi0, hi1⟩ := hi
    have hni : nadd 0 ((i : Nat) : Int).toNat = i := by simp [nadd_eq]
    conv => whnf
    refine dsplit (fun h1 => ?_) (fun h1 => ?_)
    · have hfi := hf (h i)
      have hst : findZ p h i (m - i) = if p (h i) = true then (i : Int) else findZ p h (i + 1) (m - (i + 1)) := by
        rw [show m - i = (m - (i + 1)) + 1 by omega]; rfl
      conv => whnf
      (repeat' (first | (refine And.intro (by (first | omega | assumption | (simp only [nadd_eq]; omega) | (simp [nadd_eq]; omega))) ?_; conv => whnf) | (refine arI64 (by omega) (by omega) ?_; conv => whnf) | (refine arU32 (by omega) (by omega) ?_; conv => whnf) | (refine arU8 (by omega) (by omega) ?_; conv => whnf)))
      rw [hni]
      conv => whnf
      (refine call_auto hP (hfi) ?_; conv => whnf); (refine ⟨⟨rfl, rfl, rfl, (by repeat' (first | exact trivial | exact rfl | (intro _ _; exact rfl) | (intro _ hj; exact absurd hj (Nat.not_lt_zero _)) | exact Nat.le_refl _ | exact Or.inl (Or.inl (And.intro (fun h => h) rfl)) | exact Or.inl rfl | apply And.intro)), rfl, rfl⟩, ?_⟩; conv => whnf)
      refine bsplit (fun h2 => ?_) (fun h2 => ?_)
      · conv => whnf
        (refine fin_auto ?_; conv => whnf); refine ⟨rfl, rfl, rfl, int_fin ?_, (by repeat' (first | exact trivial | exact rfl | (intro _ _; exact rfl) | (intro _ hj; exact absurd hj (Nat.not_lt_zero _)) | exact Nat.le_refl _ | exact Or.inl (Or.inl (And.intro (fun h => h) rfl)) | exact Or.inl rfl | apply And.intro)), rfl⟩
        rw [hi1, hst, if_pos h2]
      · conv => whnf
        (repeat' (first | (refine And.intro (by (first | omega | assumption | (simp only [nadd_eq]; omega) | (simp [nadd_eq]; omega))) ?_; conv => whnf) | (refine arI64 (by omega) (by omega) ?_; conv => whnf) | (refine arU32 (by omega) (by omega) ?_; conv => whnf) | (refine arU8 (by omega) (by omega) ?_; conv => whnf)))
        refine ⟨i + 1, ⟨by omega, ?_⟩, by omega, ?_⟩
        · rw [hi1, hst, if_neg (by rw [h2]; simp)]
        · (conv => whnf); (refine imp_auto hA ?_; conv => whnf); exact ⟨rfl, rfl, rfl, (by repeat' (first | exact trivial | exact rfl | apply And.intro)), (by repeat' (first | exact trivial | exact rfl | (intro _ _; exact rfl) | (intro _ hj; exact absurd hj (Nat.not_lt_zero _)) | exact Nat.le_refl _ | exact Or.inl (Or.inl (And.intro (fun h => h) rfl)) | exact Or.inl rfl | apply And.intro)), rfl⟩
    · obtain rfl : i = m := by omega
      conv => whnf
      (refine fin_auto ?_; conv => whnf); refine ⟨rfl, rfl, rfl, int_fin ?_, (by repeat' (first | exact trivial | exact rfl | (intro _ _; exact rfl) | (intro _ hj; exact absurd hj (Nat.not_lt_zero _)) | exact Nat.le_refl _ | exact Or.inl (Or.inl (And.intro (fun h => h) rfl)) | exact Or.inl rfl | apply And.intro)), rfl⟩
      rw [hi1, Nat.sub_self]
      rfl
theorem containsf_spec (f : FuncId) (p : Int → Bool) (hf : ∀ v, FSpec Tryd.prog f [] 0 [.l (.v (.int .i64 v))] fun x h n => x = sBool (p v) ∧ n = 0 ∧ h = []) (h : Nat → Int) (m : Nat) (hm : m ≤ 1000000) :
    FSpec Tryd.prog 38 [(0, some (.ro 1 m (numE h)))] 1 [.l (.s 0 1 0 m 0), .l (.c f [])] fun x h' n => x = sBool (anyZ p h m) ∧ n = 1 ∧ h' = [] := by
  have hi := indexf_spec f p hf h m hm
  have he := find_any p h m 0
  simp only [Nat.zero_add] at he
  refine spec_of_ev Tryd.func38 ic38_eq (rs := [.t 4]) (by kernel_rfl) (by kernel_rfl) (by kernel_rfl) fun G hP hA => ?_
  unfold evF ic38
  conv => whnf
  (refine call_auto hP (hi) ?_; conv => whnf); (refine ⟨⟨rfl, rfl, rfl, (by repeat' (first | exact trivial | exact rfl | (intro _ _; exact rfl) | (intro _ hj; exact absurd hj (Nat.not_lt_zero _)) | exact Nat.le_refl _ | exact Or.inl (Or.inl (And.intro (fun h => h) rfl)) | exact Or.inl rfl | apply And.intro)), rfl, rfl⟩, ?_⟩; conv => whnf)
  (refine fin_auto ?_; conv => whnf); refine ⟨rfl, rfl, rfl, bool_fin ?_, (by repeat' (first | exact trivial | exact rfl | (intro _ _; exact rfl) | (intro _ hj; exact absurd hj (Nat.not_lt_zero _)) | exact Nat.le_refl _ | exact Or.inl (Or.inl (And.intro (fun h => h) rfl)) | exact Or.inl rfl | apply And.intro)), rfl⟩
  rw [Bool.eq_iff_iff, decide_eq_true_iff]
  exact he
/-- A context's state and deadline. -/
def seatE (st dl : Nat → Int) : Nat → List Value := fun i => [.int .i64 (st i), .int .i64 (dl i)]
def seatH (n : Nat) (st dl : Nat → Int) (timed probed : Bool) : Heap := [(0, some (.st [.s 1 2 0 n 0, .v (.bool timed), .v (.bool probed)])), (1, some (.ar 2 n (seatE st dl)))]
def seatP (n : Nat) (st dl : Nat → Int) (timed probed : Bool) : Ent := .ob [] (PackR (seatH n st dl timed probed) 2)
theorem seatNew_bad (n : Int) (a b : Bool) (hn : n < 1 ∨ 64 < n) : FSpec Tryd.prog 37 [] 0 [.l (.v (.int .i64 n)), .l (.v (.bool a)), .l (.v (.bool b))] fun x h k => x = .t [.l (.v (.pointer none)), .l (.v (.int .i64 1))] ∧ k = 0 ∧ h = [] := by
  refine spec_of_ev Tryd.func37 ic37_eq (rs := [.t 6, .t 7]) (by kernel_rfl) (by kernel_rfl) (by kernel_rfl) fun G hP hA => ?_
  unfold evF ic37
  conv => whnf
  refine dsplit (fun h1 => ?_) (fun h1 => ?_)
  · conv => whnf
    (refine fin_auto ?_; conv => whnf); exact ⟨rfl, rfl, rfl, rfl, (by repeat' (first | exact trivial | exact rfl | (intro _ _; exact rfl) | (intro _ hj; exact absurd hj (Nat.not_lt_zero _)) | exact Nat.le_refl _ | exact Or.inl (Or.inl (And.intro (fun h => h) rfl)) | exact Or.inl rfl | apply And.intro)), rfl⟩
  · conv => whnf
    refine dsplit (fun h2 => ?_) (fun h2 => absurd h2 (by omega))
    conv => whnf
    (refine fin_auto ?_; conv => whnf); exact ⟨rfl, rfl, rfl, rfl, (by repeat' (first | exact trivial | exact rfl | (intro _ _; exact rfl) | (intro _ hj; exact absurd hj (Nat.not_lt_zero _)) | exact Nat.le_refl _ | exact Or.inl (Or.inl (And.intro (fun h => h) rfl)) | exact Or.inl rfl | apply And.intro)), rfl⟩
theorem seatNew_ok (n : Nat) (a b : Bool) (hn : 1 ≤ n ∧ n ≤ 64) : FSpec Tryd.prog 37 [] 0 [.l (.v (.int .i64 n)), .l (.v (.bool a)), .l (.v (.bool b))] fun x h k =>
    x = .t [.l (.p 0 0 0 0), .l (.v (.int .i64 0))] ∧ k = 1 ∧ h = [(0, some (seatP n (fun _ => 0) (fun _ => -1) a b))] := by
  refine spec_of_ev Tryd.func37 ic37_eq (rs := [.t 6, .t 7]) (by kernel_rfl) (by kernel_rfl) (by kernel_rfl) fun G hP hA => ?_
  unfold evF ic37
  conv => whnf
  refine dsplit (fun h1 => absurd h1 (by omega)) (fun h1 => ?_)
  conv => whnf
  refine dsplit (fun h2 => absurd h2 (by omega)) (fun h2 => ?_)
  conv => whnf
  (repeat' (first | (refine And.intro (by (first | omega | assumption | (simp only [nadd_eq]; omega) | (simp [nadd_eq]; omega))) ?_; conv => whnf) | (refine arI64 (by omega) (by omega) ?_; conv => whnf) | (refine arU32 (by omega) (by omega) ?_; conv => whnf) | (refine arU8 (by omega) (by omega) ?_; conv => whnf)))
  refine loop_auto (α := Nat) (ds := []) (N := 2) (fun i => [(27, sInt .i64 (i : Int))]) [] (fun i => [(0, some (.ar 2 n (seatE (fun _ => 0) fun j => if j < i then -1 else 0)))])
    (fun i => i ≤ n) (fun i => n - i) 0 (Nat.zero_le _) ?_ fun i hi => ?_
  · (conv => whnf); (refine imp_auto hA ?_; conv => whnf); exact ⟨rfl, rfl, rfl, (by repeat' (first | exact trivial | exact rfl | apply And.intro)), (by repeat' (first | exact trivial | exact rfl | (intro _ _; exact rfl) | (intro _ hj; exact absurd hj (Nat.not_lt_zero _)) | exact Nat.le_refl _ | exact Or.inl (Or.inl (And.intro (fun h => h) rfl)) | exact Or.inl rfl | apply And.intro)), rfl⟩
  · have hni : nadd 0 ((i : Nat) : Int).toNat = i := by simp [nadd_eq]
    conv => whnf
    refine dsplit (fun h3 => ?_) (fun h3 => ?_)
    · replace h3 : (i : Int) < (n : Int) := h3
      conv => whnf
      (repeat' (first | (refine And.intro (by (first | omega | assumption | (simp only [nadd_eq]; omega) | (simp [nadd_eq]; omega))) ?_; conv => whnf) | (refine arI64 (by omega) (by omega) ?_; conv => whnf) | (refine arU32 (by omega) (by omega) ?_; conv => whnf) | (refine arU8 (by omega) (by omega) ?_; conv => whnf)))
      rw [hni]
      refine ⟨i + 1, by omega, by omega, ?_⟩
      (conv => whnf); (refine imp_auto hA ?_; conv => whnf); refine ⟨rfl, rfl, rfl, (by repeat' (first | exact trivial | exact rfl | apply And.intro)), ?_, rfl⟩
      refine And.intro (And.intro rfl (And.intro rfl fun j hj => ?_)) (by repeat' (first | exact trivial | exact rfl | (intro _ _; exact rfl) | (intro _ hj; exact absurd hj (Nat.not_lt_zero _)) | exact Nat.le_refl _ | exact Or.inl (Or.inl (And.intro (fun h => h) rfl)) | exact Or.inl rfl | apply And.intro))
      by_cases hji : j = i
      · subst hji
        simp only [mrgL, mrg_eq, if_true, setMany, setL, seatE, Nat.lt_succ_self]
      · have e1 : (j < i + 1) ↔ (j < i) := by omega
        simp only [mrgL, mrg_eq, if_neg hji, setMany, setL, seatE, e1]
    · replace h3 : ¬ (i : Int) < (n : Int) := h3
      obtain rfl : i = n := by omega
      conv => whnf
      (refine fin_close (H := seatH i (fun _ => 0) (fun _ => -1) a b) (np := 2) 1 0 (Nat.le_of_ble_eq_true rfl) ?_; conv => whnf); (refine ⟨⟨rfl, by omega, rfl, rfl, ?_, rfl⟩, ?_⟩)
      · refine ⟨rfl, ⟨rfl, rfl, fun j hj => ?_⟩, trivial⟩
        simp only [seatE, if_pos hj]
      (refine fin_auto ?_; conv => whnf); exact ⟨rfl, rfl, rfl, rfl, (by repeat' (first | exact trivial | exact rfl | (intro _ _; exact rfl) | (intro _ hj; exact absurd hj (Nat.not_lt_zero _)) | exact Nat.le_refl _ | exact Or.inl (Or.inl (And.intro (fun h => h) rfl)) | exact Or.inl rfl | apply And.intro)), rfl⟩
end Go.Proofs.YtmccmanekbiadaaDoor
