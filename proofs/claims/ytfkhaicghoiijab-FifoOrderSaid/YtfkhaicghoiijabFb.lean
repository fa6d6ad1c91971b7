/- Fifo*: New, Index, Contains, next. -/
import Derived.Test.YtfkhaicghoiijabFa
set_option linter.unusedSimpArgs false
set_option linter.unusedVariables false
namespace Go.Proofs.Ytfkhaicghoiijab
open Go Go.Sx

def clamp (n : Int) : Int := min (max n 0) 64
theorem clamp_eq (n : Int) : ∃ q : Nat, clamp n = q ∧ q ≤ 64 := ⟨(clamp n).toNat, by unfold clamp; omega, by unfold clamp; omega⟩
def numE (S : Nat → Int) : Nat → List Value := fun i => [.int .i64 (S i)]
/-- A lock: its states, its queue. -/
theorem new_spec0 (n : Int) (q : Nat) (hq : clamp n = q) (hq2 : q ≤ 64) : FSpec Try.prog 28 [] 0 [.l (.v (.int .i64 n))] fun x h k => x = .o (.l (.p 0 0 0 0)) ∧ k = 2 ∧ h = [(0, some (.st [.s 1 1 0 q 0, .v (.slice none 0 0)])), (1, some (.ar 1 q (numE fun _ => 0)))] := by
  refine spec_of_ev Try.func28 ic28_eq (rs := [.t 2]) (by kernel_rfl) (by kernel_rfl) (by kernel_rfl) fun G hP hA => ?_
  unfold evF ic28
  conv => whnf
  rw [show min (max n 0) 64 = (q : Int) from hq]
  (repeat' (first | (refine And.intro (by (first | omega | assumption | (simp only [nadd_eq]; omega) | (simp [nadd_eq]; omega))) ?_; conv => whnf) | (refine arI64 (by omega) (by omega) ?_; conv => whnf) | (refine arU32 (by omega) (by omega) ?_; conv => whnf) | (refine arU8 (by omega) (by omega) ?_; conv => whnf)))
  (refine fin_auto ?_; conv => whnf); exact ⟨rfl, rfl, rfl, rfl, (by repeat' (first | exact trivial | exact rfl | (intro _ _; exact rfl) | (intro _ hj; exact absurd hj (Nat.not_lt_zero _)) | exact Nat.le_refl _ | exact Or.inl (And.intro (fun h => h) rfl) | apply And.intro)), rfl⟩
theorem new_spec (n : Int) (q : Nat) (hq : clamp n = q) (hq2 : q ≤ 64) : FSpec Try.prog 28 [] 0 [.l (.v (.int .i64 n))] fun x h k => x = .o (.l (.p 0 0 0 0)) ∧ k = 3 ∧ h = [(0, some (.st [.s 1 1 0 q 0, .s 2 1 0 0 0])), (1, some (.ar 1 q (numE fun _ => 0))), (2, some (.ar 1 0 (numE fun _ => 0)))] := by
  refine FSpec.nil_cell (new_spec0 n q hq hq2) fun x h k hx => ?_
  obtain ⟨rfl, rfl, rfl⟩ := hx
  refine ⟨0, _, [.s 1 1 0 q 0, .s 2 1 0 0 0], 1, numE fun _ => 0, _, rfl, by omega, fun ρ h => ?_, fun ρ D hD h hc x hx => ?_, fun j => ?_, rfl, rfl, rfl⟩
  · simp [LV.at, h]
  · simp at hx
    rcases hx with rfl | rfl
    · exact hc _ (by simp)
    · exact ⟨hD, fun _ => rfl, fun hh => by rw [h] at hh; cases hh⟩
  · simp only [hget_cons]
    by_cases h0 : 0 = j
    · simp [h0]
    · by_cases h1 : 1 = j
      · subst h1; simp
      · by_cases h2 : 2 = j
        · subst h2; simp
        · simp [h0, h1, h2]
def nxt (s k : Int) : Int := if k = 1 ∧ s = 0 then 1 else if k = 2 ∧ s = 1 then 2 else if k = 4 ∧ s = 2 then 3 else if (k = 5 ∧ (s = 1 ∨ s = 2)) ∨ (k = 8 ∧ s = 1) ∨ (k = 7 ∧ s = 4) then 0 else if k = 6 ∧ s = 3 then 4 else -1
set_option maxHeartbeats 1000000 in
theorem next_spec (s k : Int) : FSpec Try.prog 32 [] 0 [.l (.v (.int .i64 s)), .l (.v (.int .i64 k))] fun x h n => x = sInt .i64 (nxt s k) ∧ n = 0 ∧ h = [] := by
  refine spec_of_ev Try.func32 ic32_eq (rs := [.t 4]) (by kernel_rfl) (by kernel_rfl) (by kernel_rfl) fun G hP hA => ?_
  unfold evF ic32
  rcases (show k = 1 ∨ k = 2 ∨ k = 4 ∨ k = 5 ∨ k = 8 ∨ k = 7 ∨ k = 6 ∨ (k ≠ 1 ∧ k ≠ 2 ∧ k ≠ 4 ∧ k ≠ 5 ∧ k ≠ 8 ∧ k ≠ 7 ∧ k ≠ 6) by omega) with rfl | rfl | rfl | rfl | rfl | rfl | rfl | ⟨h1, h2, h4, h5, h8, h7, h6⟩
  · conv => whnf
    (repeat' (first | (refine join_plain ?_; conv => whnf) | (refine dsplit (fun _ => ?_) (fun _ => ?_) <;> conv => whnf)))
    all_goals (((refine fin_auto ?_; conv => whnf); refine ⟨rfl, rfl, rfl, int_fin ?_, (by repeat' (first | exact trivial | exact rfl | (intro _ _; exact rfl) | (intro _ hj; exact absurd hj (Nat.not_lt_zero _)) | exact Nat.le_refl _ | exact Or.inl (And.intro (fun h => h) rfl) | apply And.intro)), rfl⟩); unfold nxt; (repeat' split) <;> omega)
  · conv => whnf
    (repeat' (first | (refine join_plain ?_; conv => whnf) | (refine dsplit (fun _ => ?_) (fun _ => ?_) <;> conv => whnf)))
    all_goals (((refine fin_auto ?_; conv => whnf); refine ⟨rfl, rfl, rfl, int_fin ?_, (by repeat' (first | exact trivial | exact rfl | (intro _ _; exact rfl) | (intro _ hj; exact absurd hj (Nat.not_lt_zero _)) | exact Nat.le_refl _ | exact Or.inl (And.intro (fun h => h) rfl) | apply And.intro)), rfl⟩); unfold nxt; (repeat' split) <;> omega)
  · conv => whnf
    (repeat' (first | (refine join_plain ?_; conv => whnf) | (refine dsplit (fun _ => ?_) (fun _ => ?_) <;> conv => whnf)))
    all_goals (((refine fin_auto ?_; conv => whnf); refine ⟨rfl, rfl, rfl, int_fin ?_, (by repeat' (first | exact trivial | exact rfl | (intro _ _; exact rfl) | (intro _ hj; exact absurd hj (Nat.not_lt_zero _)) | exact Nat.le_refl _ | exact Or.inl (And.intro (fun h => h) rfl) | apply And.intro)), rfl⟩); unfold nxt; (repeat' split) <;> omega)
  · conv => whnf
    (repeat' (first | (refine join_plain ?_; conv => whnf) | (refine dsplit (fun _ => ?_) (fun _ => ?_) <;> conv => whnf)))
    all_goals (((refine fin_auto ?_; conv => whnf); refine ⟨rfl, rfl, rfl, int_fin ?_, (by repeat' (first | exact trivial | exact rfl | (intro _ _; exact rfl) | (intro _ hj; exact absurd hj (Nat.not_lt_zero _)) | exact Nat.le_refl _ | exact Or.inl (And.intro (fun h => h) rfl) | apply And.intro)), rfl⟩); unfold nxt; (repeat' split) <;> omega)
  · conv => whnf
    (repeat' (first | (refine join_plain ?_; conv => whnf) | (refine dsplit (fun _ => ?_) (fun _ => ?_) <;> conv => whnf)))
    all_goals (((refine fin_auto ?_; conv => whnf); refine ⟨rfl, rfl, rfl, int_fin ?_, (by repeat' (first | exact trivial | exact rfl | (intro _ _; exact rfl) | (intro _ hj; exact absurd hj (Nat.not_lt_zero _)) | exact Nat.le_refl _ | exact Or.inl (And.intro (fun h => h) rfl) | apply And.intro)), rfl⟩); unfold nxt; (repeat' split) <;> omega)
  · conv => whnf
    (repeat' (first | (refine join_plain ?_; conv => whnf) | (refine dsplit (fun _ => ?_) (fun _ => ?_) <;> conv => whnf)))
    all_goals (((refine fin_auto ?_; conv => whnf); refine ⟨rfl, rfl, rfl, int_fin ?_, (by repeat' (first | exact trivial | exact rfl | (intro _ _; exact rfl) | (intro _ hj; exact absurd hj (Nat.not_lt_zero _)) | exact Nat.le_refl _ | exact Or.inl (And.intro (fun h => h) rfl) | apply And.intro)), rfl⟩); unfold nxt; (repeat' split) <;> omega)
  · conv => whnf
    (repeat' (first | (refine join_plain ?_; conv => whnf) | (refine dsplit (fun _ => ?_) (fun _ => ?_) <;> conv => whnf)))
    all_goals (((refine fin_auto ?_; conv => whnf); refine ⟨rfl, rfl, rfl, int_fin ?_, (by repeat' (first | exact trivial | exact rfl | (intro _ _; exact rfl) | (intro _ hj; exact absurd hj (Nat.not_lt_zero _)) | exact Nat.le_refl _ | exact Or.inl (And.intro (fun h => h) rfl) | apply And.intro)), rfl⟩); unfold nxt; (repeat' split) <;> omega)
  · conv => whnf
    refine dsplit (fun h => absurd h h1) (fun _ => ?_)
    conv => whnf
    refine dsplit (fun h => absurd h h2) (fun _ => ?_)
    conv => whnf
    refine dsplit (fun h => absurd h h4) (fun _ => ?_)
    conv => whnf
    (refine join_plain ?_; conv => whnf)
    refine dsplit (fun h => absurd h h5) (fun _ => ?_)
    conv => whnf
    refine dsplit (fun h => absurd h h8) (fun _ => ?_)
    conv => whnf
    refine dsplit (fun h => absurd h h7) (fun _ => ?_)
    conv => whnf
    refine dsplit (fun h => absurd h h6) (fun _ => ?_)
    conv => whnf
    (refine fin_auto ?_; conv => whnf); refine ⟨rfl, rfl, rfl, int_fin ?_, (by repeat' (first | exact trivial | exact rfl | (intro _ _; exact rfl) | (intro _ hj; exact absurd hj (Nat.not_lt_zero _)) | exact Nat.le_refl _ | exact Or.inl (And.intro (fun h => h) rfl) | apply And.intro)), rfl⟩
    unfold nxt
    (repeat' split) <;> omega
def fstN (S : Nat → Int) (v : Int) : Nat → Int
  | 0 => -1
  | n + 1 => if 0 ≤ fstN S v n then fstN S v n else if S n = v then n else -1
theorem fstN_ge (S : Nat → Int) (v : Int) : ∀ n, 0 ≤ fstN S v n ↔ ∃ i, i < n ∧ S i = v
  | 0 => by simp [fstN]
  | n + 1 => by
    have ih := fstN_ge S v n
    simp only [fstN]
    constructor
    · intro h
      split at h
      · rename_i h1; obtain ⟨i, hi, hs⟩ := ih.1 h1; exact ⟨i, by omega, hs⟩
      · split at h
        · rename_i h2; exact ⟨n, by omega, h2⟩
        · omega
    · intro ⟨i, hi, hs⟩
      split
      · assumption
      · rename_i h1
        have : i = n := by
          by_cases hin : i < n
          · exact absurd (ih.2 ⟨i, hin, hs⟩) h1
          · omega
        subst this
        rw [if_pos hs]; omega
theorem fstN_mono (S : Nat → Int) (v : Int) (i : Nat) (h : 0 ≤ fstN S v i) : ∀ n, fstN S v (i + n) = fstN S v i
  | 0 => rfl
  | n + 1 => by
    have ih := fstN_mono S v i h n
    show (if 0 ≤ fstN S v (i + n) then fstN S v (i + n) else _) = _
    rw [ih, if_pos h]
theorem index_spec (S : Nat → Int) (v : Int) (m : Nat) (hm : m ≤ 1000) : FSpec Try.prog 37 [(0, some (.ro 1 m (numE S)))] 1 [.l (.s 0 1 0 m 0), .l (.v (.int .i64 v))] fun x h n => x = sInt .i64 (fstN S v m) ∧ n = 1 ∧ h = [] := by
  refine spec_of_ev Try.func37 ic37_eq (rs := [.t 4]) (by kernel_rfl) (by kernel_rfl) (by kernel_rfl) fun G hP hA => ?_
  unfold evF ic37
  conv => whnf
  refine loop_auto (α := Nat) (ds := []) (N := 1) (fun i => [(8, sInt .i64 (i : Int))]) [] (fun _ => [])
    (fun i => i ≤ m ∧ fstN S v i = -1) (fun i => m - i) 0 ⟨Nat.zero_le _, rfl⟩ ?_ fun i hi => ?_
  · (conv => whnf); (refine imp_auto hA ?_; conv => whnf); exact ⟨rfl, rfl, rfl, (by repeat' (first | exact trivial | exact rfl | apply And.intro)), (by repeat' (first | exact trivial | exact rfl | (intro _ _; exact rfl) | (intro _ hj; exact absurd hj (Nat.not_lt_zero _)) | exact Nat.le_refl _ | exact Or.inl (And.intro (fun h => h) rfl) | apply And.intro)), rfl⟩
  · obtain ⟨hi, hf⟩ := hi
    conv => whnf
    refine dsplit (fun h1 => ?_) (fun h1 => ?_)
    · conv => whnf
      (repeat' (first | (refine And.intro (by (first | omega | assumption | (simp only [nadd_eq]; omega) | (simp [nadd_eq]; omega))) ?_; conv => whnf) | (refine arI64 (by omega) (by omega) ?_; conv => whnf) | (refine arU32 (by omega) (by omega) ?_; conv => whnf) | (refine arU8 (by omega) (by omega) ?_; conv => whnf)))
      refine dsplit (fun h2 => ?_) (fun h2 => ?_)
      · conv => whnf
        (refine fin_auto ?_; conv => whnf); refine ⟨rfl, rfl, rfl, int_fin ?_, (by repeat' (first | exact trivial | exact rfl | (intro _ _; exact rfl) | (intro _ hj; exact absurd hj (Nat.not_lt_zero _)) | exact Nat.le_refl _ | exact Or.inl (And.intro (fun h => h) rfl) | apply And.intro)), rfl⟩
        replace h2 : v = S i := h2
        obtain ⟨d, rfl⟩ : ∃ d, m = i + 1 + d := ⟨m - (i + 1), by omega⟩
        have he : fstN S v (i + 1) = i := by simp only [fstN, hf]; rw [if_neg (by omega), if_pos h2.symm]
        rw [fstN_mono S v (i + 1) (by omega) d, he]
      · replace h2 : ¬ v = S i := h2
        conv => whnf
        (repeat' (first | (refine And.intro (by (first | omega | assumption | (simp only [nadd_eq]; omega) | (simp [nadd_eq]; omega))) ?_; conv => whnf) | (refine arI64 (by omega) (by omega) ?_; conv => whnf) | (refine arU32 (by omega) (by omega) ?_; conv => whnf) | (refine arU8 (by omega) (by omega) ?_; conv => whnf)))
        refine ⟨i + 1, ⟨by omega, ?_⟩, by omega, ?_⟩
        · simp only [fstN, hf]; rw [if_neg (by omega), if_neg (fun h => h2 h.symm)]
        (conv => whnf); (refine imp_auto hA ?_; conv => whnf); exact ⟨rfl, rfl, rfl, (by repeat' (first | exact trivial | exact rfl | apply And.intro)), (by repeat' (first | exact trivial | exact rfl | (intro _ _; exact rfl) | (intro _ hj; exact absurd hj (Nat.not_lt_zero _)) | exact Nat.le_refl _ | exact Or.inl (And.intro (fun h => h) rfl) | apply And.intro)), rfl⟩
    · obtain rfl : i = m := by omega
      conv => whnf
      (refine fin_auto ?_; conv => whnf); refine ⟨rfl, rfl, rfl, int_fin ?_, (by repeat' (first | exact trivial | exact rfl | (intro _ _; exact rfl) | (intro _ hj; exact absurd hj (Nat.not_lt_zero _)) | exact Nat.le_refl _ | exact Or.inl (And.intro (fun h => h) rfl) | apply And.intro)), rfl⟩
      exact hf.symm
theorem contains_spec (S : Nat → Int) (v : Int) (m : Nat) (hm : m ≤ 1000) : FSpec Try.prog 33 [(0, some (.ro 1 m (numE S)))] 1 [.l (.s 0 1 0 m 0), .l (.v (.int .i64 v))] fun x h n => x = sBool (decide (0 ≤ fstN S v m)) ∧ n = 1 ∧ h = [] := by
  refine spec_of_ev Try.func33 ic33_eq (rs := [.t 4]) (by kernel_rfl) (by kernel_rfl) (by kernel_rfl) fun G hP hA => ?_
  have hx := index_spec S v m hm
  unfold evF ic33
  conv => whnf
  (refine call_auto hP (hx) ?_; conv => whnf); (refine ⟨⟨rfl, rfl, rfl, (by repeat' (first | exact trivial | exact rfl | (intro _ _; exact rfl) | (intro _ hj; exact absurd hj (Nat.not_lt_zero _)) | exact Nat.le_refl _ | exact Or.inl (And.intro (fun h => h) rfl) | apply And.intro)), rfl, rfl⟩, ?_⟩; conv => whnf)
  (refine fin_auto ?_; conv => whnf); exact ⟨rfl, rfl, rfl, rfl, (by repeat' (first | exact trivial | exact rfl | (intro _ _; exact rfl) | (intro _ hj; exact absurd hj (Nat.not_lt_zero _)) | exact Nat.le_refl _ | exact Or.inl (And.intro (fun h => h) rfl) | apply And.intro)), rfl⟩
end Go.Proofs.Ytfkhaicghoiijab
