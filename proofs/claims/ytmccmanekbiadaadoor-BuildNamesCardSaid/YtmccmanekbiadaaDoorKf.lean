/- Locks: a lock of Craig, Landin and Hagersten is given its port. -/
import Derived.Test.YtmccmanekbiadaaDoorKe
import Derived.Test.YtmccmanekbiadaaDoorSxPN
set_option linter.unusedSimpArgs false
set_option linter.unusedVariables false
namespace Go.Proofs.YtmccmanekbiadaaDoor
open Go Go.Sx

/-- A lock of Craig, Landin and Hagersten, with its port (name 1, of others). -/
def clhH1 (n : Nat) (tail : Int) (st dl no ah sp : Nat → Int) : Heap := [(0, some (.st [.p 2 0 0 0, .p 1 0 0 0, .v (.int .i64 tail), .s 3 3 0 n 0])), (2, some (seatP n st dl false true)), (3, some (.ar 3 n (clhE no ah sp)))]
theorem clhUse_spec (n : Nat) (tail : Int) (st dl no ah sp : Nat → Int) :
    FSpec Tryd.prog 108 [(0, some (clhP0 n tail st dl no ah sp))] 2 [.l (.p 0 0 0 0), .l (.p 1 0 0 0)] fun x h k =>
      x = .t [] ∧ k = 2 ∧ h = [(0, some (packE (clhH1 n tail st dl no ah sp) 4 1))] := by
  refine spec_of_ev_g (open_at 0 (h := [(0, some (clhP0 n tail st dl no ah sp))]) (n := 2) (ks := []) (H := clhH0 n tail st dl no ah sp) (np := 3) rfl (by decide) rfl rfl rfl) Tryd.func108 ic108_eq (rs := []) (by kernel_rfl) (by kernel_rfl) (by kernel_rfl) fun G hP hA => ?_
  unfold evF ic108
  conv => whnf
  (refine fin_close (H := (clhH1 n tail st dl no ah sp)) (np := 4) 0 1 (Nat.le_of_ble_eq_true rfl) ?_; conv => whnf); (refine ⟨⟨rfl, by omega, rfl, rfl, (by repeat' (first | exact trivial | exact rfl | (intro _ _; exact rfl) | (intro _ hj; exact absurd hj (Nat.not_lt_zero _)) | exact Nat.le_refl _ | exact Or.inl (Or.inl (And.intro (fun h => h) rfl)) | exact Or.inl rfl | apply And.intro)), rfl⟩, ?_⟩)
  (refine fin_auto ?_; conv => whnf); exact ⟨rfl, rfl, rfl, rfl, (by repeat' (first | exact trivial | exact rfl | (intro _ _; exact rfl) | (intro _ hj; exact absurd hj (Nat.not_lt_zero _)) | exact Nat.le_refl _ | exact Or.inl (Or.inl (And.intro (fun h => h) rfl)) | exact Or.inl rfl | apply And.intro)), rfl⟩
theorem invUse_clh (v : Value) (args : Array Value) (w : World) : (callMethod (.iface 78 v) "Use" args).run Tryd.prog w = .ok (.enter 108 (#[v] ++ args)) w := by kernel_rfl
end Go.Proofs.YtmccmanekbiadaaDoor
