/- Serial*: the document's example. -/
import Derived.Test.YtfkhaicghoiijabSt
set_option linter.unusedSimpArgs false
namespace Go.Proofs.Ytfkhaicghoiijab
open Go Go.Sx

def exD : Nat → Nat → Dd
  | 0, 0 => ⟨1, 0, 0⟩
  | 0, 1 => ⟨2, 0, 1⟩
  | 0, _ => ⟨4, 0, 0⟩
  | _, 0 => ⟨1, 0, 0⟩
  | _, 1 => ⟨3, 0, 2⟩
  | _, _ => ⟨4, 0, 0⟩
def exB : Jb := ⟨1, fun _ => 2, fun _ _ => 0, fun _ _ => 3, fun _ j => exD j⟩
def T0 : Nat → Int := fun _ => 0
def J1 : Nat → Int
  | 0 => 0
  | _ => 1
def J2 : Nat → Int
  | 0 => 1
  | _ => 0
theorem exB_small : exB.small := ⟨by decide, fun t _ => by show 2 ≤ _; decide, fun t _ j _ => by show 3 ≤ _; decide⟩
set_option maxHeartbeats 2000000 in
set_option maxRecDepth 4000 in
theorem awake_spec : FSpec Try.prog 10 [] 0 [] fun x h n => x = sBool true ∧ n = 0 ∧ h = [] := by
  have h1 := serial_spec exB exB_small T0 J1 2 (fun _ => 0) (by omega)
  have h2 := serial_spec exB exB_small T0 J2 2 (fun _ => 0) (by omega)
  rw [show okT exB T0 J1 2 = true by decide +kernel] at h1
  rw [show okT exB T0 J2 2 = true by decide +kernel] at h2
  rw [show serC exB T0 J1 (fun _ => 0) 2 = fun k => if k = 0 then 2 else 0 from by
    funext k
    show (if k = 0 then (2 : Int) else if k = 0 then 1 else 0) = _
    split <;> rfl] at h1
  rw [show serC exB T0 J2 (fun _ => 0) 2 = fun k => if k = 0 then 1 else 0 from by
    funext k
    show (if k = 0 then (1 : Int) else if k = 0 then 0 else 0) = _
    split <;> rfl] at h2
  refine spec_of_ev Try.func10 ic10_eq (rs := [.t 0]) (by kernel_rfl) (by kernel_rfl) (by kernel_rfl) fun G hP hA => ?_
  unfold evF ic10
  conv => whnf
  (repeat' (first | (refine And.intro (by (first | omega | assumption | (simp only [nadd_eq]; omega) | (simp [nadd_eq]; omega))) ?_; conv => whnf) | (refine arI64 (by omega) (by omega) ?_; conv => whnf) | (refine arU32 (by omega) (by omega) ?_; conv => whnf) | (refine arU8 (by omega) (by omega) ?_; conv => whnf)))
  (refine call_auto hP (h1) ?_; conv => whnf); refine ⟨⟨rfl, rfl, rfl, ?_, rfl, rfl⟩, ?_⟩
  · refine ⟨.inr ⟨rfl, rfl, rfl, fun i hi c hc => ?_⟩, ⟨rfl, Nat.le_refl _, fun i hi => ?_⟩, trivial⟩
    · obtain rfl : i = 0 := by omega
      obtain rfl : c = 0 := by omega
      refine ⟨rfl, rfl, fun i hi c hc => ?_⟩
      rcases (show i = 0 ∨ i = 1 from by omega) with rfl | rfl <;> rcases (show c = 0 ∨ c = 1 from by omega) with rfl | rfl
      · exact rfl
      · refine ⟨rfl, rfl, fun i hi c hc => ?_⟩
        rcases (show i = 0 ∨ i = 1 ∨ i = 2 from by omega) with rfl | rfl | rfl <;> rcases (show c = 0 ∨ c = 1 ∨ c = 2 from by omega) with rfl | rfl | rfl <;> exact rfl
      · exact rfl
      · refine ⟨rfl, rfl, fun i hi c hc => ?_⟩
        rcases (show i = 0 ∨ i = 1 ∨ i = 2 from by omega) with rfl | rfl | rfl <;> rcases (show c = 0 ∨ c = 1 ∨ c = 2 from by omega) with rfl | rfl | rfl <;> exact rfl
    · rcases (show i = 0 ∨ i = 1 from by omega) with rfl | rfl <;> rfl
  conv => whnf
  (repeat' (first | (refine And.intro (by (first | omega | assumption | (simp only [nadd_eq]; omega) | (simp [nadd_eq]; omega))) ?_; conv => whnf) | (refine arI64 (by omega) (by omega) ?_; conv => whnf) | (refine arU32 (by omega) (by omega) ?_; conv => whnf) | (refine arU8 (by omega) (by omega) ?_; conv => whnf)))
  (refine call_auto hP (h2) ?_; conv => whnf); refine ⟨⟨rfl, rfl, rfl, ?_, rfl, rfl⟩, ?_⟩
  · refine ⟨.inr ⟨rfl, rfl, rfl, fun i hi c hc => ?_⟩, ⟨rfl, Nat.le_refl _, fun i hi => ?_⟩, trivial⟩
    · obtain rfl : i = 0 := by omega
      obtain rfl : c = 0 := by omega
      refine ⟨rfl, rfl, fun i hi c hc => ?_⟩
      rcases (show i = 0 ∨ i = 1 from by omega) with rfl | rfl <;> rcases (show c = 0 ∨ c = 1 from by omega) with rfl | rfl
      · exact rfl
      · refine ⟨rfl, rfl, fun i hi c hc => ?_⟩
        rcases (show i = 0 ∨ i = 1 ∨ i = 2 from by omega) with rfl | rfl | rfl <;> rcases (show c = 0 ∨ c = 1 ∨ c = 2 from by omega) with rfl | rfl | rfl <;> exact rfl
      · exact rfl
      · refine ⟨rfl, rfl, fun i hi c hc => ?_⟩
        rcases (show i = 0 ∨ i = 1 ∨ i = 2 from by omega) with rfl | rfl | rfl <;> rcases (show c = 0 ∨ c = 1 ∨ c = 2 from by omega) with rfl | rfl | rfl <;> exact rfl
    · rcases (show i = 0 ∨ i = 1 from by omega) with rfl | rfl <;> rfl
  conv => whnf
  (repeat' (first | (refine And.intro (by (first | omega | assumption | (simp only [nadd_eq]; omega) | (simp [nadd_eq]; omega))) ?_; conv => whnf) | (refine arI64 (by omega) (by omega) ?_; conv => whnf) | (refine arU32 (by omega) (by omega) ?_; conv => whnf) | (refine arU8 (by omega) (by omega) ?_; conv => whnf)))
  (refine fin_auto ?_; conv => whnf); refine ⟨rfl, rfl, rfl, bool_fin ?_, (by repeat' (first | exact trivial | exact rfl | (intro _ _; exact rfl) | (intro _ hj; exact absurd hj (Nat.not_lt_zero _)) | exact Nat.le_refl _ | exact Or.inl (Or.inl (And.intro (fun h => h) rfl)) | apply And.intro)), rfl⟩
  rfl
end Go.Proofs.Ytfkhaicghoiijab
