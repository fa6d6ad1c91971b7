/- Serial*: a whole section. -/
import Derived.Test.YtfkhaicghoiijabSp
import Derived.Test.YtfkhaicghoiijabSxZ
namespace Go.Proofs.Ytfkhaicghoiijab
open Go Go.Sx

/-- Deeds, one by one. -/
def runC (D : Nat → Dd) (c : Nat → Int) : Nat → (Nat → Int) × Int
  | 0 => (c, 0)
  | n + 1 => (cell1 (D n) (runC D c n).1 (runC D c n).2, reg1 (D n) (runC D c n).1 (runC D c n).2)
theorem clone_spec (D : Nat → Dd) (m : Nat) (hm : m ≤ 5864062014634) :
    FSpec Try.prog 36 [(0, some (.ro 3 m (ddE D)))] 1 [.l (.s 0 3 0 m 0)] fun x h n =>
      x = .o (.l (.s 1 3 0 m 0)) ∧ n = 2 ∧ h = [(1, some (.ar 3 m (ddE D)))] := by
  refine FSpec.nil_ret (Q := fun x h n => (x = .o (.l (.s 1 3 0 m 0)) ∧ n = 2 ∧ h = [(1, some (.ar 3 m (ddE D)))]) ∨ (m = 0 ∧ x = .o (.l (.v (.slice none 0 0))) ∧ n = 1 ∧ h = [])) ?_ ?_
  · refine spec_of_ev Try.func36 ic36_eq (rs := [.t 2]) (by kernel_rfl) (by kernel_rfl) (by kernel_rfl) fun G hP hA => ?_
    unfold evF ic36
    conv => whnf
    refine esc_isnil (el := 79) (by rw [hP]; kernel_rfl) rfl fun b hb => ?_
    conv => whnf
    refine bsplit (fun h => ?_) (fun h => ?_)
    · conv => whnf
      exact finP_intro [0] (.o (.l (.v (.slice none 0 0)))) [] 1 rfl (.inr ⟨hb h, rfl, rfl, rfl⟩) rfl rfl rfl trivial rfl
    · conv => whnf
      (repeat' (first | (refine And.intro (by (first | omega | assumption | (simp only [nadd_eq]; omega) | (simp [nadd_eq]; omega))) ?_; conv => whnf) | (refine arI64 (by omega) (by omega) ?_; conv => whnf) | (refine arU32 (by omega) (by omega) ?_; conv => whnf) | (refine arU8 (by omega) (by omega) ?_; conv => whnf)))
      refine finP_intro [0, 2] (.o (.l (.s 1 3 0 m 0))) [(1, some (.ar 3 m (ddE D)))] 2 rfl (.inl ⟨rfl, rfl, rfl⟩) rfl rfl ?_ ?_ rfl
      · show SV.o (.l (.s 2 3 0 (0 + m) 0)) = _
        rw [Nat.zero_add]; rfl
      · refine ⟨?_, trivial⟩
        show EntLe _ (.ar 3 (0 + m) _) _
        refine ⟨rfl, Nat.zero_add m, fun i hi => ?_⟩
        simp [nadd_eq]
  · intro x h n hx
    rcases hx with ⟨rfl, rfl, rfl⟩ | ⟨rfl, rfl, rfl, rfl⟩
    · exact .inl ⟨rfl, rfl, rfl⟩
    · exact .inr ⟨3, ddE D, _, fun ρ h => nil_at ρ h, fun ρ D hD h _ => nil_ok ρ D hD h, rfl, rfl, rfl⟩
theorem begin_spec (D : Nat → Dd) (m : Nat) (hm : m ≤ 5864062014634) :
    FSpec Try.prog 30 [(0, some (.ro 3 m (ddE D)))] 1 [.l (.s 0 3 0 m 0)] fun x h n =>
      x = .o (.l (.p 1 0 0 0)) ∧ n = 3 ∧ h = [(1, some (.st [.s 2 3 0 m 0, .v (.int .i64 0), .v (.int .u32 0)])), (2, some (.ar 3 m (ddE D)))] := by
  refine spec_of_ev Try.func30 ic30_eq (rs := [.t 2]) (by kernel_rfl) (by kernel_rfl) (by kernel_rfl) fun G hP hA => ?_
  unfold evF ic30
  conv => whnf
  (refine call_auto hP (clone_spec D m hm) ?_; conv => whnf); (refine ⟨⟨rfl, rfl, rfl, (by repeat' (first | exact trivial | exact rfl | (intro _ _; exact rfl) | (intro _ hj; exact absurd hj (Nat.not_lt_zero _)) | exact Nat.le_refl _ | exact Or.inl (Or.inl (And.intro (fun h => h) rfl)) | apply And.intro)), rfl, rfl⟩, ?_⟩; conv => whnf)
  (refine fin_auto ?_; conv => whnf); exact ⟨rfl, rfl, rfl, rfl, (by repeat' (first | exact trivial | exact rfl | (intro _ _; exact rfl) | (intro _ hj; exact absurd hj (Nat.not_lt_zero _)) | exact Nat.le_refl _ | exact Or.inl (Or.inl (And.intro (fun h => h) rfl)) | apply And.intro)), rfl⟩
set_option maxHeartbeats 1000000 in
theorem run_spec (D : Nat → Dd) (m : Nat) (c : Nat → Int) (hm : m ≤ 5864062014634) :
    FSpec Try.prog 27 [(0, some (.ro 3 m (ddE D)))] 1 [.a (cellsC c), .l (.s 0 3 0 m 0)] fun x h n =>
      x = .o (.a (cellsC (runC D c m).1)) ∧ n = 1 ∧ h = [] := by
  refine spec_of_ev Try.func27 ic27_eq (rs := [.ca 4 16]) (by kernel_rfl) (by kernel_rfl) (by kernel_rfl) fun G hP hA => ?_
  unfold evF ic27
  conv => whnf
  (refine call_auto hP (begin_spec D m hm) ?_; conv => whnf); (refine ⟨⟨rfl, rfl, rfl, (by repeat' (first | exact trivial | exact rfl | (intro _ _; exact rfl) | (intro _ hj; exact absurd hj (Nat.not_lt_zero _)) | exact Nat.le_refl _ | exact Or.inl (Or.inl (And.intro (fun h => h) rfl)) | apply And.intro)), rfl, rfl⟩, ?_⟩; conv => whnf)
  refine loop_auto (α := Nat) (ds := []) (N := 5) (fun _ => []) [] (fun i => [(3, some (.st [.s 4 3 0 m 0, .v (.int .i64 (i : Int)), .v (.int .u32 (runC D c i).2)])), (1, some (.st (cellsC (runC D c i).1)))])
    (fun i => i ≤ m) (fun i => m - i) 0 (Nat.zero_le _) ?_ fun i hi => ?_
  · (conv => whnf); (refine imp_auto hA ?_; conv => whnf); exact ⟨rfl, rfl, rfl, (by repeat' (first | exact trivial | exact rfl | apply And.intro)), (by repeat' (first | exact trivial | exact rfl | (intro _ _; exact rfl) | (intro _ hj; exact absurd hj (Nat.not_lt_zero _)) | exact Nat.le_refl _ | exact Or.inl (Or.inl (And.intro (fun h => h) rfl)) | apply And.intro)), rfl⟩
  · conv => whnf
    by_cases h : i < m
    · have hs := step_spec D m i (runC D c i).1 (runC D c i).2 h (by omega)
      (refine call_auto hP (hs) ?_; conv => whnf); (refine ⟨⟨rfl, rfl, rfl, (by repeat' (first | exact trivial | exact rfl | (intro _ _; exact rfl) | (intro _ hj; exact absurd hj (Nat.not_lt_zero _)) | exact Nat.le_refl _ | exact Or.inl (Or.inl (And.intro (fun h => h) rfl)) | apply And.intro)), rfl, rfl⟩, ?_⟩; conv => whnf)
      refine ⟨i + 1, by omega, by omega, ?_⟩
      (conv => whnf); (refine imp_auto hA ?_; conv => whnf); exact ⟨rfl, rfl, rfl, (by repeat' (first | exact trivial | exact rfl | apply And.intro)), (by repeat' (first | exact trivial | exact rfl | (intro _ _; exact rfl) | (intro _ hj; exact absurd hj (Nat.not_lt_zero _)) | exact Nat.le_refl _ | exact Or.inl (Or.inl (And.intro (fun h => h) rfl)) | apply And.intro)), rfl⟩
    · obtain rfl : i = m := by omega
      have hs := step_end D i (runC D c i).1 (runC D c i).2
      (refine call_auto hP (hs) ?_; conv => whnf); (refine ⟨⟨rfl, rfl, rfl, (by repeat' (first | exact trivial | exact rfl | (intro _ _; exact rfl) | (intro _ hj; exact absurd hj (Nat.not_lt_zero _)) | exact Nat.le_refl _ | exact Or.inl (Or.inl (And.intro (fun h => h) rfl)) | apply And.intro)), rfl, rfl⟩, ?_⟩; conv => whnf)
      (refine fin_auto ?_; conv => whnf); exact ⟨rfl, rfl, rfl, rfl, (by repeat' (first | exact trivial | exact rfl | (intro _ _; exact rfl) | (intro _ hj; exact absurd hj (Nat.not_lt_zero _)) | exact Nat.le_refl _ | exact Or.inl (Or.inl (And.intro (fun h => h) rfl)) | apply And.intro)), rfl⟩
end Go.Proofs.Ytfkhaicghoiijab
