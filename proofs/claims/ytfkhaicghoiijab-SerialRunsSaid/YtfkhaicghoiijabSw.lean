/- SerialParts: the walk. -/
import Derived.Test.YtfkhaicghoiijabSu
set_option linter.unusedSimpArgs false
set_option linter.unusedVariables false
namespace Go.Proofs.Ytfkhaicghoiijab
open Go Go.Sx

theorem part_spec (D : Nat → Dd) (m : Nat) (c : Nat → Int) (n : Int) (q : Nat) (hq : (q : Int) = min (max n 0) m) (hm : m ≤ 5864062014634) :
    FSpec Try.prog 15 [(0, some (.ro 3 m (ddE D)))] 1 [.a (cellsC c), .l (.s 0 3 0 m 0), .l (.v (.int .i64 n))] fun x h k =>
      x = .o (.a (cellsC (runC D c q).1)) ∧ k = 1 ∧ h = [] := by
  refine spec_of_ev Try.func15 ic15_eq (rs := [.ca 6 16]) (by kernel_rfl) (by kernel_rfl) (by kernel_rfl) fun G hP hA => ?_
  have hrun := run_spec D q c (by omega)
  unfold evF ic15
  conv => whnf
  (refine drawP_intro (by rw [hP]; exact follows) (by kernel_rfl) ?_; conv => whnf)
  rw [← hq]
  (repeat' (first | (refine And.intro (by (first | omega | assumption | (simp only [nadd_eq]; omega) | (simp [nadd_eq]; omega))) ?_; conv => whnf) | (refine arI64 (by omega) (by omega) ?_; conv => whnf) | (refine arU32 (by omega) (by omega) ?_; conv => whnf) | (refine arU8 (by omega) (by omega) ?_; conv => whnf)))
  (refine callD_auto hP (hrun) ?_; conv => whnf); refine ⟨⟨rfl, rfl, rfl, ?_, rfl, rfl⟩, ?_⟩
  · refine ⟨⟨rfl, ?_, fun i hi => rfl⟩, trivial⟩
    show q ≤ m
    omega
  conv => whnf
  (repeat (refine And.intro (by (conv => whnf); first | exact ⟨rfl, rfl, rfl⟩ | (refine And.intro (by omega) ?_; (conv => whnf); exact ⟨rfl, rfl, rfl⟩)) ?_; conv => whnf))
  (refine fin_auto ?_; conv => whnf); exact ⟨rfl, rfl, rfl, rfl, (by repeat' (first | exact trivial | exact rfl | (intro _ _; exact rfl) | (intro _ hj; exact absurd hj (Nat.not_lt_zero _)) | exact Nat.le_refl _ | exact Or.inl (Or.inl (And.intro (fun h => h) rfl)) | apply And.intro)), rfl⟩
theorem mayB_cell {d : Dd} (h : mayB d = true) (hk : d.k = 1 ∨ d.k = 4) : 0 ≤ d.c ∧ d.c < 16 := by
  unfold mayB at h
  split at h
  · omega
  · simp only [decide_eq_true_eq] at h; omega
theorem fineB_iff {D : Nat → Dd} {m : Nat} (h : fineB D m = true) : m ≤ 64 ∧ ∀ i, i < m → (D i).k = 1 ∨ (D i).k = 4 → 0 ≤ (D i).c ∧ (D i).c < 16 := by
  simp only [fineB, Bool.and_eq_true, allB_iff, decide_eq_true_eq] at h
  exact ⟨h.2, fun i hi => mayB_cell (h.1 i hi)⟩
theorem eqAll_refl (c : Nat → Int) : eqAll (List.replicate 16 (.k .u32)) (cellsC c) (cellsC c) = some true := by
  simp [cellsC, eqAll, eqLV, List.replicate]
set_option maxHeartbeats 2000000 in
theorem sparts_spec (D : Nat → Dd) (m : Nat) (c : Nat → Int) (n : Int) (hm : m ≤ 5864062014634) :
    FSpec Try.prog 4 [(0, some (.ro 3 m (ddE D)))] 1 [.a (cellsC c), .l (.s 0 3 0 m 0), .l (.v (.int .i64 n))] fun x _ _ => x = sBool true := by
  refine FSpec.mono (Q := fun x h k => x = sBool true ∧ k = 1 ∧ h = []) ?_ fun x h k hx => hx.1
  refine spec_of_ev Try.func4 ic4_eq (rs := [.t 6]) (by kernel_rfl) (by kernel_rfl) (by kernel_rfl) fun G hP hA => ?_
  obtain ⟨q, hq⟩ : ∃ q : Nat, (q : Int) = min (max n 0) m := ⟨(min (max n 0) m).toNat, by omega⟩
  unfold evF ic4
  conv => whnf
  (refine call_auto hP (fine_spec D m hm) ?_; conv => whnf); (refine ⟨⟨rfl, rfl, rfl, (by repeat' (first | exact trivial | exact rfl | (intro _ _; exact rfl) | (intro _ hj; exact absurd hj (Nat.not_lt_zero _)) | exact Nat.le_refl _ | exact Or.inl (Or.inl (And.intro (fun h => h) rfl)) | apply And.intro)), rfl, rfl⟩, ?_⟩; conv => whnf)
  refine nbsplit (fun h1 => ?_) (fun h1 => ?_)
  · conv => whnf
    (refine call_auto hP (awake_spec) ?_; conv => whnf); (refine ⟨⟨rfl, rfl, rfl, (by repeat' (first | exact trivial | exact rfl | (intro _ _; exact rfl) | (intro _ hj; exact absurd hj (Nat.not_lt_zero _)) | exact Nat.le_refl _ | exact Or.inl (Or.inl (And.intro (fun h => h) rfl)) | apply And.intro)), rfl, rfl⟩, ?_⟩; conv => whnf)
    (refine fin_auto ?_; conv => whnf); exact ⟨rfl, rfl, rfl, rfl, (by repeat' (first | exact trivial | exact rfl | (intro _ _; exact rfl) | (intro _ hj; exact absurd hj (Nat.not_lt_zero _)) | exact Nat.le_refl _ | exact Or.inl (Or.inl (And.intro (fun h => h) rfl)) | apply And.intro)), rfl⟩
  · obtain ⟨h2, h3⟩ := fineB_iff h1
    have hr22 := run22_spec D m c q q (by omega) hm (by omega) h3
    have hp := part_spec D m c n q hq hm
    conv => whnf
    rw [← hq]
    (refine drawP_intro (by rw [hP]; exact follows) (by kernel_rfl) ?_; conv => whnf)
    (refine callD_auto hP (ref_spec D m hm) ?_; conv => whnf); (refine ⟨⟨rfl, rfl, rfl, (by repeat' (first | exact trivial | exact rfl | (intro _ _; exact rfl) | (intro _ hj; exact absurd hj (Nat.not_lt_zero _)) | exact Nat.le_refl _ | exact Or.inl (Or.inl (And.intro (fun h => h) rfl)) | apply And.intro)), rfl, rfl⟩, ?_⟩; conv => whnf)
    (refine callD_auto hP (hr22) ?_; conv => whnf); (refine ⟨⟨rfl, rfl, rfl, (by repeat' (first | exact trivial | exact rfl | (intro _ _; exact rfl) | (intro _ hj; exact absurd hj (Nat.not_lt_zero _)) | exact Nat.le_refl _ | exact Or.inl (Or.inl (And.intro (fun h => h) rfl)) | apply And.intro)), rfl, rfl⟩, ?_⟩; conv => whnf)
    (repeat (refine And.intro (by (conv => whnf); first | exact ⟨rfl, rfl, rfl⟩ | (refine And.intro (by omega) ?_; (conv => whnf); exact ⟨rfl, rfl, rfl⟩)) ?_; conv => whnf))
    (refine drawP_intro (by rw [hP]; exact follows) (by kernel_rfl) ?_; conv => whnf)
    (refine callD_auto hP (hp) ?_; conv => whnf); (refine ⟨⟨rfl, rfl, rfl, (by repeat' (first | exact trivial | exact rfl | (intro _ _; exact rfl) | (intro _ hj; exact absurd hj (Nat.not_lt_zero _)) | exact Nat.le_refl _ | exact Or.inl (Or.inl (And.intro (fun h => h) rfl)) | apply And.intro)), rfl, rfl⟩, ?_⟩; conv => whnf)
    refine bsplit (fun h4 => ?_) (fun h4 => absurd h4 (by simp [xb]))
    rw [h4]
    conv => whnf
    (refine callD_auto hP (awake_spec) ?_; conv => whnf); (refine ⟨⟨rfl, rfl, rfl, (by repeat' (first | exact trivial | exact rfl | (intro _ _; exact rfl) | (intro _ hj; exact absurd hj (Nat.not_lt_zero _)) | exact Nat.le_refl _ | exact Or.inl (Or.inl (And.intro (fun h => h) rfl)) | apply And.intro)), rfl, rfl⟩, ?_⟩; conv => whnf)
    (repeat (refine And.intro (by (conv => whnf); first | exact ⟨rfl, rfl, rfl⟩ | (refine And.intro (by omega) ?_; (conv => whnf); exact ⟨rfl, rfl, rfl⟩)) ?_; conv => whnf))
    (refine fin_auto ?_; conv => whnf); refine ⟨rfl, rfl, rfl, bool_fin ?_, (by repeat' (first | exact trivial | exact rfl | (intro _ _; exact rfl) | (intro _ hj; exact absurd hj (Nat.not_lt_zero _)) | exact Nat.le_refl _ | exact Or.inl (Or.inl (And.intro (fun h => h) rfl)) | apply And.intro)), rfl⟩
    rfl
end Go.Proofs.Ytfkhaicghoiijab
