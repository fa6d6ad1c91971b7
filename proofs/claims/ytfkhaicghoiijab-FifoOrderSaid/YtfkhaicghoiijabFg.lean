/- Fifo*: awake; FifoBegins. -/
import Derived.Test.YtfkhaicghoiijabFf
set_option linter.unusedSimpArgs false
set_option linter.unusedVariables false
namespace Go.Proofs.Ytfkhaicghoiijab
open Go Go.Sx

def exK : Nat → Int
  | 0 => 1
  | 1 => 2
  | 2 => 1
  | 3 => 2
  | _ => 4
def exT : Nat → Int
  | 0 => 0
  | 1 => 0
  | _ => 1
def exU : Nat → Int
  | 0 => 0
  | 1 => 0
  | 2 => 1
  | 3 => 1
  | _ => 0
set_option maxHeartbeats 1000000 in
theorem awake_spec : FSpec Try.prog 21 [] 0 [] fun x h n => x = sBool true ∧ n = 0 ∧ h = [] := by
  have h1 := check_spec 2 2 (by decide) (by omega) exK exT (fun _ => 0) (fun _ => false) 5 (by omega)
  have h2 := check_spec 2 2 (by decide) (by omega) exK exU (fun _ => 0) (fun _ => false) 5 (by omega)
  rw [show cntN (okN 2 exK exT fun _ => false) 5 = 4 by decide +kernel] at h1
  rw [show cntN (okN 2 exK exU fun _ => false) 5 = 5 by decide +kernel] at h2
  refine spec_of_ev Try.func21 ic21_eq (rs := [.t 0]) (by kernel_rfl) (by kernel_rfl) (by kernel_rfl) fun G hP hA => ?_
  unfold evF ic21
  conv => whnf
  (refine call_auto hP (h1) ?_; conv => whnf); refine ⟨⟨rfl, rfl, rfl, ?_, rfl, rfl⟩, ?_⟩
  · refine ⟨⟨rfl, Nat.le_refl _, fun i hi => ?_⟩, trivial⟩
    rcases (show i = 0 ∨ i = 1 ∨ i = 2 ∨ i = 3 ∨ i = 4 by omega) with rfl | rfl | rfl | rfl | rfl <;> rfl
  conv => whnf
  (repeat' (first | (refine And.intro (by (first | omega | assumption | (simp only [nadd_eq]; omega) | (simp [nadd_eq]; omega))) ?_; conv => whnf) | (refine arI64 (by omega) (by omega) ?_; conv => whnf) | (refine arU32 (by omega) (by omega) ?_; conv => whnf) | (refine arU8 (by omega) (by omega) ?_; conv => whnf)))
  (refine call_auto hP (h2) ?_; conv => whnf); refine ⟨⟨rfl, rfl, rfl, ?_, rfl, rfl⟩, ?_⟩
  · refine ⟨⟨rfl, Nat.le_refl _, fun i hi => ?_⟩, trivial⟩
    rcases (show i = 0 ∨ i = 1 ∨ i = 2 ∨ i = 3 ∨ i = 4 by omega) with rfl | rfl | rfl | rfl | rfl <;> rfl
  conv => whnf
  (refine fin_auto ?_; conv => whnf); refine ⟨rfl, rfl, rfl, bool_fin ?_, (by repeat' (first | exact trivial | exact rfl | (intro _ _; exact rfl) | (intro _ hj; exact absurd hj (Nat.not_lt_zero _)) | exact Nat.le_refl _ | exact Or.inl (And.intro (fun h => h) rfl) | apply And.intro)), rfl⟩
  rfl
theorem cntN_min (p : Nat → Bool) (j : Nat) : ∀ d, cntN p j = min j (cntN p (j + d))
  | 0 => by have := cntN_le p j; simp only [Nat.add_zero]; omega
  | d + 1 => by
    have ih := cntN_min p j d
    have h1 := cntN_le p (j + d)
    show _ = min j (if cntN p (j + d) < j + d then cntN p (j + d) else if p (j + d) = true then j + d + 1 else j + d)
    (repeat' split) <;> omega
theorem xb_dec (c m : Nat) : xb true (decide (c = m) == decide ((c : Int) = (m : Int))) = false := by
  have : decide (c = m) = decide ((c : Int) = (m : Int)) := by rw [decide_eq_decide]; omega
  rw [this]; simp [xb]
set_option maxHeartbeats 1000000 in
theorem begins_spec (n : Int) (u : Int) (hu : 0 ≤ u ∧ u ≤ 255) (k t a : Nat → Int) (b : Nat → Bool) (m : Nat) (hm : m ≤ maxLen) :
    FSpec Try.prog 8 [(0, some (.ro 4 m (entE k t a b)))] 1 [.l (.v (.int .i64 n)), .l (.s 0 4 0 m 0), .l (.v (.int .u8 u))] fun x h j => x = sBool true := by
  unfold maxLen at hm
  refine FSpec.mono (Q := fun x h k => x = sBool true ∧ k = 1 ∧ h = []) ?_ fun x h k hx => hx.1
  obtain ⟨w, hw, hw2⟩ := clamp_eq n
  refine spec_of_ev Try.func8 ic8_eq (rs := [.t 6]) (by kernel_rfl) (by kernel_rfl) (by kernel_rfl) fun G hP hA => ?_
  unfold evF ic8
  conv => whnf
  refine dsplit (fun h1 => ?_) (fun h1 => ?_)
  · conv => whnf
    (refine call_auto hP (awake_spec) ?_; conv => whnf); (refine ⟨⟨rfl, rfl, rfl, (by repeat' (first | exact trivial | exact rfl | (intro _ _; exact rfl) | (intro _ hj; exact absurd hj (Nat.not_lt_zero _)) | exact Nat.le_refl _ | exact Or.inl (And.intro (fun h => h) rfl) | apply And.intro)), rfl, rfl⟩, ?_⟩; conv => whnf)
    (refine fin_auto ?_; conv => whnf); exact ⟨rfl, rfl, rfl, rfl, (by repeat' (first | exact trivial | exact rfl | (intro _ _; exact rfl) | (intro _ hj; exact absurd hj (Nat.not_lt_zero _)) | exact Nat.le_refl _ | exact Or.inl (And.intro (fun h => h) rfl) | apply And.intro)), rfl⟩
  · have hc := check_spec n w hw hw2 k t a b m (by omega)
    have hl := cntN_le (okN w k t b) m
    conv => whnf
    (refine call_auto hP (hc) ?_; conv => whnf); (refine ⟨⟨rfl, rfl, rfl, (by repeat' (first | exact trivial | exact rfl | (intro _ _; exact rfl) | (intro _ hj; exact absurd hj (Nat.not_lt_zero _)) | exact Nat.le_refl _ | exact Or.inl (And.intro (fun h => h) rfl) | apply And.intro)), rfl, rfl⟩, ?_⟩; conv => whnf)
    refine dsplit (fun h2 => absurd h2 (by omega)) (fun h2 => ?_)
    conv => whnf
    refine bsplit (fun h3 => absurd h3 (by rw [xb_dec]; exact Bool.false_ne_true)) (fun h3 => ?_)
    conv => whnf
    (repeat' (first | (refine And.intro (by (first | omega | assumption | (simp only [nadd_eq]; omega) | (simp [nadd_eq]; omega))) ?_; conv => whnf) | (refine arI64 (by omega) (by omega) ?_; conv => whnf) | (refine arU32 (by omega) (by omega) ?_; conv => whnf) | (refine arU8 (by omega) (by omega) ?_; conv => whnf)))
    refine remI (by omega) (by omega) ?_
    obtain ⟨j, hj, hj2⟩ : ∃ j : Nat, u % ((m : Int) + 1) = j ∧ j ≤ m := by
      have h4 := Int.emod_nonneg u (show (m : Int) + 1 ≠ 0 by omega)
      have h5 := Int.emod_lt_of_pos u (show 0 < (m : Int) + 1 by omega)
      exact ⟨(u % ((m : Int) + 1)).toNat, by omega, by omega⟩
    rw [hj]
    have hc2 := check_spec n w hw hw2 k t a b j (by omega)
    obtain ⟨d, hd⟩ : ∃ d, m = j + d := ⟨m - j, by omega⟩
    have hmin := cntN_min (okN w k t b) j d
    rw [← hd] at hmin
    conv => whnf
    (repeat' (first | (refine And.intro (by (first | omega | assumption | (simp only [nadd_eq]; omega) | (simp [nadd_eq]; omega))) ?_; conv => whnf) | (refine arI64 (by omega) (by omega) ?_; conv => whnf) | (refine arU32 (by omega) (by omega) ?_; conv => whnf) | (refine arU8 (by omega) (by omega) ?_; conv => whnf)))
    (refine call_auto hP (hc2) ?_; conv => whnf); refine ⟨⟨rfl, rfl, rfl, ?_, rfl, rfl⟩, ?_⟩
    · exact And.intro (And.intro rfl (And.intro (show j ≤ m from hj2) fun i hi => rfl)) (by repeat' (first | exact trivial | exact rfl | (intro _ _; exact rfl) | (intro _ hj; exact absurd hj (Nat.not_lt_zero _)) | exact Nat.le_refl _ | exact Or.inl (And.intro (fun h => h) rfl) | apply And.intro))
    conv => whnf
    refine dsplit (fun h6 => ?_) (fun h6 => absurd (by omega) h6)
    have hE : (decide (cntN (okN w k t b) j = j) == decide ((j : Int) ≤ (cntN (okN w k t b) m : Int))) = true := by rw [beq_iff_eq, decide_eq_decide]; omega
    conv => whnf
    refine bsplit (fun _ => ?_) (fun h => by have := hE.symm.trans h; cases this)
    conv => whnf
    (refine call_auto hP (awake_spec) ?_; conv => whnf); (refine ⟨⟨rfl, rfl, rfl, (by repeat' (first | exact trivial | exact rfl | (intro _ _; exact rfl) | (intro _ hj; exact absurd hj (Nat.not_lt_zero _)) | exact Nat.le_refl _ | exact Or.inl (And.intro (fun h => h) rfl) | apply And.intro)), rfl, rfl⟩, ?_⟩; conv => whnf)
    (refine fin_auto ?_; conv => whnf); exact ⟨rfl, rfl, rfl, rfl, (by repeat' (first | exact trivial | exact rfl | (intro _ _; exact rfl) | (intro _ hj; exact absurd hj (Nat.not_lt_zero _)) | exact Nat.le_refl _ | exact Or.inl (And.intro (fun h => h) rfl) | apply And.intro)), rfl⟩
end Go.Proofs.Ytfkhaicghoiijab
