/- Locks: plans. -/
import Derived.Test.YtmccmanekbiadaaDoorKa
set_option linter.unusedSimpArgs false
set_option linter.unusedVariables false
namespace Go.Proofs.YtmccmanekbiadaaDoor
open Go Go.Sx

def wordE (w : Nat → Int) : Nat → List Value := fun i => [.int .u32 (w i)]
/-- A plan: how many threads, how many words, their homes, and they themselves. -/
def planH (th : Int) (m : Nat) (hs ws : Nat → Int) : Heap := [(0, some (.st [.v (.int .i64 th), .s 1 1 0 m 0, .s 2 1 0 m 0])), (1, some (.ar 1 m (numE hs))), (2, some (.ar 1 m (wordE ws)))]
def planP (th : Int) (m : Nat) (hs ws : Nat → Int) : Ent := .ob [] (PackR (planH th m hs ws) 3)
theorem planNew_spec (th : Int) (hs ws : Nat → Int) : FSpec Tryd.prog 20 [] 0 [.l (.v (.int .i64 th))] fun x h n => x = .o (.l (.p 0 0 0 0)) ∧ n = 1 ∧ h = [(0, some (planP th 0 hs ws))] := by
  refine spec_of_ev Tryd.func20 ic20_eq (rs := [.t 2]) (by kernel_rfl) (by kernel_rfl) (by kernel_rfl) fun G hP hA => ?_
  unfold evF ic20
  conv => whnf
  refine finP_ghost (GSpec.nilc 0 1 1 (numE hs) rfl rfl) (Nat.zero_le _) ?_
  refine finP_ghost (GSpec.nilc 0 2 1 (wordE ws) rfl rfl) (Nat.zero_le _) ?_
  (refine fin_close (H := planH th 0 hs ws) (np := 3) 0 0 (Nat.le_of_ble_eq_true rfl) ?_; conv => whnf); (refine ⟨⟨rfl, by omega, rfl, rfl, (by repeat' (first | exact trivial | exact rfl | (intro _ _; exact rfl) | (intro _ hj; exact absurd hj (Nat.not_lt_zero _)) | exact Nat.le_refl _ | exact Or.inl (Or.inl (And.intro (fun h => h) rfl)) | exact Or.inl rfl | apply And.intro)), rfl⟩, ?_⟩)
  (refine fin_auto ?_; conv => whnf); exact ⟨rfl, rfl, rfl, rfl, (by repeat' (first | exact trivial | exact rfl | (intro _ _; exact rfl) | (intro _ hj; exact absurd hj (Nat.not_lt_zero _)) | exact Nat.le_refl _ | exact Or.inl (Or.inl (And.intro (fun h => h) rfl)) | exact Or.inl rfl | apply And.intro)), rfl⟩
def tailF (f : Nat → Int) (m : Nat) (v : Int) : Nat → Int := fun i => if i < m then f i else v
theorem tail_snoc (f : Nat → Int) (m : Nat) (v : Int) (q : Nat) {g : Int → List Value} : ∀ j, j < m + (q + 1) → (if j < m + q then g (tailF f m v j) else g v) = g (tailF f m v j) := fun j hj => by
  by_cases h : j < m + q
  · rw [if_pos h]
  · rw [if_neg h]; unfold tailF; rw [if_neg (by omega)]
set_option maxHeartbeats 1000000 in
theorem row_spec (th : Int) (m : Nat) (hs ws : Nat → Int) (n home v : Int) (q : Nat) (hq : (q : Int) = min (max n 0) 4097) (hm : m ≤ 1000000) :
    FSpec Tryd.prog 47 [(0, some (planP th m hs ws))] 1 [.l (.p 0 0 0 0), .l (.v (.int .i64 n)), .l (.v (.int .i64 home)), .l (.v (.int .u32 v))] fun x h k =>
      x = sInt .i64 (m : Int) ∧ k = 1 ∧ h = [(0, some (planP th (m + q) (tailF hs m home) (tailF ws m v)))] := by
  refine spec_of_ev_g (open_spec (planH th m hs ws) 3 0 (by omega)) Tryd.func47 ic47_eq (rs := [.t 8]) (by kernel_rfl) (by kernel_rfl) (by kernel_rfl) fun G hP hA => ?_
  unfold evF ic47
  have h0 : q ≤ 4097 := by omega
  conv => whnf
  rw [← hq]
  refine loop_auto (α := Nat) (ds := []) (N := 5) (fun i => [(18, sInt .i64 (i : Int))]) []
    (fun i => [(1, none), (2, none), (0, some (.st [.v (.int .i64 th), .s 3 1 0 (m + i) 0, .s 4 1 0 (m + i) 0])), (3, some (.ar 1 (m + i) (numE (tailF hs m home)))), (4, some (.ar 1 (m + i) (wordE (tailF ws m v))))])
    (fun i => i ≤ q) (fun i => q - i) 0 (Nat.zero_le _) ?_ fun i hi => ?_
  · (conv => whnf); (refine imp_auto hA ?_; conv => whnf); refine ⟨rfl, rfl, rfl, (by repeat' (first | exact trivial | exact rfl | apply And.intro)), ?_, rfl⟩
    refine ⟨rfl, ⟨rfl, rfl, fun j hj => ?_⟩, ⟨rfl, rfl, fun j hj => ?_⟩, trivial⟩
    · simp only [numE, tailF, if_pos (show j < m from hj)]
    · simp only [wordE, tailF, if_pos (show j < m from hj)]
  · conv => whnf
    refine dsplit (fun h1 => ?_) (fun h1 => ?_)
    · replace h1 : (i : Int) < (q : Int) := h1
      conv => whnf
      (repeat' (first | (refine And.intro (by (first | omega | assumption | (simp only [nadd_eq]; omega) | (simp [nadd_eq]; omega))) ?_; conv => whnf) | (refine arI64 (by omega) (by omega) ?_; conv => whnf) | (refine arU32 (by omega) (by omega) ?_; conv => whnf) | (refine arU8 (by omega) (by omega) ?_; conv => whnf)))
      refine ⟨i + 1, by omega, by omega, ?_⟩
      (conv => whnf); (refine imp_auto hA ?_; conv => whnf); refine ⟨rfl, rfl, rfl, (by repeat' (first | exact trivial | exact rfl | apply And.intro)), ?_, rfl⟩
      refine ⟨rfl, ⟨rfl, rfl, fun j hj => ?_⟩, ⟨rfl, rfl, fun j hj => ?_⟩, trivial⟩
      · exact tail_snoc hs m home i (g := fun v => [.int .i64 v]) j hj
      · exact tail_snoc ws m v i (g := fun v => [.int .u32 v]) j hj
    · replace h1 : ¬ (i : Int) < (q : Int) := h1
      obtain rfl : i = q := by omega
      conv => whnf
      (refine fin_close (H := (planH th (m + i) (tailF hs m home) (tailF ws m v))) (np := 3) 0 0 (Nat.le_of_ble_eq_true rfl) ?_; conv => whnf); (refine ⟨⟨rfl, by omega, rfl, rfl, (by repeat' (first | exact trivial | exact rfl | (intro _ _; exact rfl) | (intro _ hj; exact absurd hj (Nat.not_lt_zero _)) | exact Nat.le_refl _ | exact Or.inl (Or.inl (And.intro (fun h => h) rfl)) | exact Or.inl rfl | apply And.intro)), rfl⟩, ?_⟩)
      (refine fin_auto ?_; conv => whnf); exact ⟨rfl, rfl, rfl, rfl, (by repeat' (first | exact trivial | exact rfl | (intro _ _; exact rfl) | (intro _ hj; exact absurd hj (Nat.not_lt_zero _)) | exact Nat.le_refl _ | exact Or.inl (Or.inl (And.intro (fun h => h) rfl)) | exact Or.inl rfl | apply And.intro)), rfl⟩
end Go.Proofs.YtmccmanekbiadaaDoor
