/- Locks: a word of a plan; what a home may not be; a lock of Craig, Landin and Hagersten, made. -/
import Derived.Test.YtmccmanekbiadaaDoorKb
set_option linter.unusedSimpArgs false
set_option linter.unusedVariables false
namespace Go.Proofs.YtmccmanekbiadaaDoor
open Go Go.Sx

theorem planR_congr {th : Int} {m : Nat} {hs ws hs' ws' : Nat → Int} (h1 : ∀ i, i < m → hs i = hs' i) (h2 : ∀ i, i < m → ws i = ws' i) {ls : List Go.Sx.Loc} {l : Go.Sx.Loc} {F : List Nat} {w : World} (h : PackR (planH th m hs ws) 3 ls l F w) : PackR (planH th m hs' ws') 3 ls l F w := by
  refine packR_congr ?_ ?_ h
  · refine ⟨?_, ⟨rfl, rfl, fun i hi => ?_⟩, ⟨rfl, rfl, fun i hi => ?_⟩, trivial⟩
    · rfl
    · simp only [numE, h1 i hi]
    · simp only [wordE, h2 i hi]
  · refine ⟨?_, ⟨rfl, rfl, fun i hi => ?_⟩, ⟨rfl, rfl, fun i hi => ?_⟩, trivial⟩
    · rfl
    · simp only [numE, h1 i hi]
    · simp only [wordE, h2 i hi]
theorem word_spec (th : Int) (m : Nat) (hs ws : Nat → Int) (home v : Int) (hm : m ≤ 1000000) :
    FSpec Tryd.prog 40 [(0, some (planP th m hs ws))] 1 [.l (.p 0 0 0 0), .l (.v (.int .i64 home)), .l (.v (.int .u32 v))] fun x h k =>
      x = sInt .i64 (m : Int) ∧ k = 1 ∧ h = [(0, some (planP th (m + 1) (tailF hs m home) (tailF ws m v)))] := by
  have hr := row_spec th m hs ws 1 home v 1 (by omega) hm
  refine spec_of_ev Tryd.func40 ic40_eq (rs := [.t 6]) (by kernel_rfl) (by kernel_rfl) (by kernel_rfl) fun G hP hA => ?_
  unfold evF ic40
  conv => whnf
  (refine call_auto hP (hr) ?_; conv => whnf); (refine ⟨⟨rfl, rfl, rfl, (by repeat' (first | exact trivial | exact rfl | (intro _ _; exact rfl) | (intro _ hj; exact absurd hj (Nat.not_lt_zero _)) | exact Nat.le_refl _ | exact Or.inl (Or.inl (And.intro (fun h => h) rfl)) | exact Or.inl rfl | apply And.intro)), rfl, rfl⟩, ?_⟩; conv => whnf)
  (refine fin_auto ?_; conv => whnf); exact ⟨rfl, rfl, rfl, rfl, (by repeat' (first | exact trivial | exact rfl | (intro _ _; exact rfl) | (intro _ hj; exact absurd hj (Nat.not_lt_zero _)) | exact Nat.le_refl _ | exact Or.inl (Or.inl (And.intro (fun h => h) rfl)) | exact Or.inl rfl | apply And.intro)), rfl⟩
theorem badClh_spec (v : Int) : FSpec Tryd.prog 45 [] 0 [.l (.v (.int .i64 v))] fun x h n => x = sBool (badH v) ∧ n = 0 ∧ h = [] := by
  refine spec_of_ev Tryd.func45 ic45_eq (rs := [.t 2]) (by kernel_rfl) (by kernel_rfl) (by kernel_rfl) fun G hP hA => ?_
  unfold evF ic45
  conv => whnf
  (repeat' (first | (refine join_plain ?_; conv => whnf) | (refine dsplit (fun _ => ?_) (fun _ => ?_) <;> conv => whnf)))
  all_goals (((refine fin_auto ?_; conv => whnf); refine ⟨rfl, rfl, rfl, bool_fin ?_, (by repeat' (first | exact trivial | exact rfl | (intro _ _; exact rfl) | (intro _ hj; exact absurd hj (Nat.not_lt_zero _)) | exact Nat.le_refl _ | exact Or.inl (Or.inl (And.intro (fun h => h) rfl)) | exact Or.inl rfl | apply And.intro)), rfl⟩); unfold badH; rw [Bool.eq_iff_iff]; simp; omega)
def clhE (no ah sp : Nat → Int) : Nat → List Value := fun i => [.int .i64 (no i), .int .i64 (ah i), .int .i64 (sp i)]
/-- A lock of Craig, Landin and Hagersten that uses no port yet. -/
def clhH0 (n : Nat) (tail : Int) (st dl no ah sp : Nat → Int) : Heap := [(0, some (.st [.p 1 0 0 0, .v (.pointer none), .v (.int .i64 tail), .s 2 3 0 n 0])), (1, some (seatP n st dl false true)), (2, some (.ar 3 n (clhE no ah sp)))]
def clhP0 (n : Nat) (tail : Int) (st dl no ah sp : Nat → Int) : Ent := .ob [] (PackR (clhH0 n tail st dl no ah sp) 3)
def snocF (f : Nat → Int) (m : Nat) (h : Nat → Int) : Nat → Nat → Int
  | 0 => f
  | i + 1 => tailF (snocF f m h i) (m + i) (h i)
def clhHs (hs : Nat → Int) (m : Nat) (h : Nat → Int) : Nat → Nat → Int := snocF (tailF (tailF hs m (h 0)) (m + 1) (h 0)) (m + 2) h
def clhWs (ws : Nat → Int) (m : Nat) : Nat → Nat → Int := snocF (tailF (tailF ws m 0) (m + 1) 0) (m + 2) fun _ => 0
theorem clhNew_bad (th : Int) (M : Nat) (hs ws h : Nat → Int) (m : Nat) (hm : m ≤ 80) (hb : m < 1 ∨ 64 < m ∨ anyZ badH h m = true) :
    FSpec Tryd.prog 28 [(0, some (planP th M hs ws)), (1, some (.ro 1 m (numE h)))] 2 [.l (.p 0 0 0 0), .l (.s 1 1 0 m 0)] fun x h' k =>
      x = .t [.l (.v (.pointer none)), .l (.v (.int .i64 1))] ∧ k = 2 ∧ h' = [(0, some (planP th M hs ws))] := by
  refine spec_of_ev Tryd.func28 ic28_eq (rs := [.t 4, .t 5]) (by kernel_rfl) (by kernel_rfl) (by kernel_rfl) fun G hP hA => ?_
  unfold evF ic28
  by_cases h1 : m < 1 ∨ 64 < m
  · have hse := seatNew_bad (m : Int) false true (by omega)
    conv => whnf
    (refine call_auto hP (hse) ?_; conv => whnf); (refine ⟨⟨rfl, rfl, rfl, (by repeat' (first | exact trivial | exact rfl | (intro _ _; exact rfl) | (intro _ hj; exact absurd hj (Nat.not_lt_zero _)) | exact Nat.le_refl _ | exact Or.inl (Or.inl (And.intro (fun h => h) rfl)) | exact Or.inl rfl | apply And.intro)), rfl, rfl⟩, ?_⟩; conv => whnf)
    (refine fin_auto ?_; conv => whnf); exact ⟨rfl, rfl, rfl, rfl, (by repeat' (first | exact trivial | exact rfl | (intro _ _; exact rfl) | (intro _ hj; exact absurd hj (Nat.not_lt_zero _)) | exact Nat.le_refl _ | exact Or.inl (Or.inl (And.intro (fun h => h) rfl)) | exact Or.inl rfl | apply And.intro)), rfl⟩
  · have hse := seatNew_ok m false true (by omega)
    have hcf := containsf_spec 45 badH badClh_spec h m (by omega)
    rw [show anyZ badH h m = true from by rcases hb with hb | hb | hb <;> first | exact hb | omega] at hcf
    conv => whnf
    (refine call_auto hP (hse) ?_; conv => whnf); (refine ⟨⟨rfl, rfl, rfl, (by repeat' (first | exact trivial | exact rfl | (intro _ _; exact rfl) | (intro _ hj; exact absurd hj (Nat.not_lt_zero _)) | exact Nat.le_refl _ | exact Or.inl (Or.inl (And.intro (fun h => h) rfl)) | exact Or.inl rfl | apply And.intro)), rfl, rfl⟩, ?_⟩; conv => whnf)
    (refine call_auto hP (hcf) ?_; conv => whnf); (refine ⟨⟨rfl, rfl, rfl, (by repeat' (first | exact trivial | exact rfl | (intro _ _; exact rfl) | (intro _ hj; exact absurd hj (Nat.not_lt_zero _)) | exact Nat.le_refl _ | exact Or.inl (Or.inl (And.intro (fun h => h) rfl)) | exact Or.inl rfl | apply And.intro)), rfl, rfl⟩, ?_⟩; conv => whnf)
    (refine fin_auto ?_; conv => whnf); exact ⟨rfl, rfl, rfl, rfl, (by repeat' (first | exact trivial | exact rfl | (intro _ _; exact rfl) | (intro _ hj; exact absurd hj (Nat.not_lt_zero _)) | exact Nat.le_refl _ | exact Or.inl (Or.inl (And.intro (fun h => h) rfl)) | exact Or.inl rfl | apply And.intro)), rfl⟩
set_option maxHeartbeats 1000000 in
theorem clhNew_ok (th : Int) (M : Nat) (hs ws h : Nat → Int) (m : Nat) (hM : M ≤ 10000) (hm : 1 ≤ m ∧ m ≤ 64) (hb : anyZ badH h m = false) :
    FSpec Tryd.prog 28 [(0, some (planP th M hs ws)), (1, some (.ro 1 m (numE h)))] 2 [.l (.p 0 0 0 0), .l (.s 1 1 0 m 0)] fun x h' k =>
      x = .t [.l (.p 2 0 0 0), .l (.v (.int .i64 0))] ∧ k = 3 ∧ h' = [(0, some (planP th (M + 2 + m) (clhHs hs M h m) (clhWs ws M m))), (2, some (clhP0 m M (fun _ => 0) (fun _ => -1) (fun i => i + 1) (fun _ => 0) fun _ => 0))] := by
  have hse := seatNew_ok m false true (by omega)
  have hcf := containsf_spec 45 badH badClh_spec h m (by omega)
  rw [hb] at hcf
  have hw1 := word_spec th M hs ws (h 0) 0 (by omega)
  have hw2 := word_spec th (M + 1) (tailF hs M (h 0)) (tailF ws M 0) (h 0) 0 (by omega)
  refine spec_of_ev Tryd.func28 ic28_eq (rs := [.t 4, .t 5]) (by kernel_rfl) (by kernel_rfl) (by kernel_rfl) fun G hP hA => ?_
  unfold evF ic28
  conv => whnf
  (refine call_auto hP (hse) ?_; conv => whnf); (refine ⟨⟨rfl, rfl, rfl, (by repeat' (first | exact trivial | exact rfl | (intro _ _; exact rfl) | (intro _ hj; exact absurd hj (Nat.not_lt_zero _)) | exact Nat.le_refl _ | exact Or.inl (Or.inl (And.intro (fun h => h) rfl)) | exact Or.inl rfl | apply And.intro)), rfl, rfl⟩, ?_⟩; conv => whnf)
  (refine call_auto hP (hcf) ?_; conv => whnf); (refine ⟨⟨rfl, rfl, rfl, (by repeat' (first | exact trivial | exact rfl | (intro _ _; exact rfl) | (intro _ hj; exact absurd hj (Nat.not_lt_zero _)) | exact Nat.le_refl _ | exact Or.inl (Or.inl (And.intro (fun h => h) rfl)) | exact Or.inl rfl | apply And.intro)), rfl, rfl⟩, ?_⟩; conv => whnf)
  (repeat' (first | (refine And.intro (by (first | omega | assumption | (simp only [nadd_eq]; omega) | (simp [nadd_eq]; omega))) ?_; conv => whnf) | (refine arI64 (by omega) (by omega) ?_; conv => whnf) | (refine arU32 (by omega) (by omega) ?_; conv => whnf) | (refine arU8 (by omega) (by omega) ?_; conv => whnf)))
  (refine call_auto hP (hw1) ?_; conv => whnf); (refine ⟨⟨rfl, rfl, rfl, (by repeat' (first | exact trivial | exact rfl | (intro _ _; exact rfl) | (intro _ hj; exact absurd hj (Nat.not_lt_zero _)) | exact Nat.le_refl _ | exact Or.inl (Or.inl (And.intro (fun h => h) rfl)) | exact Or.inl rfl | apply And.intro)), rfl, rfl⟩, ?_⟩; conv => whnf)
  (repeat' (first | (refine And.intro (by (first | omega | assumption | (simp only [nadd_eq]; omega) | (simp [nadd_eq]; omega))) ?_; conv => whnf) | (refine arI64 (by omega) (by omega) ?_; conv => whnf) | (refine arU32 (by omega) (by omega) ?_; conv => whnf) | (refine arU8 (by omega) (by omega) ?_; conv => whnf)))
  (refine call_auto hP (hw2) ?_; conv => whnf); (refine ⟨⟨rfl, rfl, rfl, (by repeat' (first | exact trivial | exact rfl | (intro _ _; exact rfl) | (intro _ hj; exact absurd hj (Nat.not_lt_zero _)) | exact Nat.le_refl _ | exact Or.inl (Or.inl (And.intro (fun h => h) rfl)) | exact Or.inl rfl | apply And.intro)), rfl, rfl⟩, ?_⟩; conv => whnf)
  refine loop_auto (α := Nat) (ds := []) (N := 5) (fun i => [(38, sInt .i64 (i : Int))]) []
    (fun i => [(0, some (planP th (M + 2 + i) (clhHs hs M h i) (clhWs ws M i))), (3, some (.st [.p 2 0 0 0, .v (.pointer none), .v (.int .i64 M), .s 4 3 0 i 0])), (4, some (.ar 3 i (clhE (fun i => i + 1) (fun _ => 0) fun _ => 0)))])
    (fun i => i ≤ m) (fun i => m - i) 0 (Nat.zero_le _) ?_ fun i hi => ?_
  · conv => whnf
    refine Imp.trans (imp_ghost (GSpec.nilc 3 3 3 (clhE (fun i => i + 1) (fun _ => 0) fun _ => 0) rfl rfl)) ?_
    (conv => whnf); (refine imp_auto hA ?_; conv => whnf); exact ⟨rfl, rfl, rfl, (by repeat' (first | exact trivial | exact rfl | apply And.intro)), (by repeat' (first | exact trivial | exact rfl | (intro _ _; exact rfl) | (intro _ hj; exact absurd hj (Nat.not_lt_zero _)) | exact Nat.le_refl _ | exact Or.inl (Or.inl (And.intro (fun h => h) rfl)) | exact Or.inl rfl | apply And.intro)), rfl⟩
  · have hni : nadd 0 ((i : Nat) : Int).toNat = i := by simp [nadd_eq]
    have hwi := word_spec th (M + 2 + i) (clhHs hs M h i) (clhWs ws M i) (h i) 0 (by omega)
    conv => whnf
    refine dsplit (fun h1 => ?_) (fun h1 => ?_)
    · conv => whnf
      (repeat' (first | (refine And.intro (by (first | omega | assumption | (simp only [nadd_eq]; omega) | (simp [nadd_eq]; omega))) ?_; conv => whnf) | (refine arI64 (by omega) (by omega) ?_; conv => whnf) | (refine arU32 (by omega) (by omega) ?_; conv => whnf) | (refine arU8 (by omega) (by omega) ?_; conv => whnf)))
      rw [hni]
      conv => whnf
      (refine call_auto hP (hwi) ?_; conv => whnf); (refine ⟨⟨rfl, rfl, rfl, (by repeat' (first | exact trivial | exact rfl | (intro _ _; exact rfl) | (intro _ hj; exact absurd hj (Nat.not_lt_zero _)) | exact Nat.le_refl _ | exact Or.inl (Or.inl (And.intro (fun h => h) rfl)) | exact Or.inl rfl | apply And.intro)), rfl, rfl⟩, ?_⟩; conv => whnf)
      (repeat' (first | (refine And.intro (by (first | omega | assumption | (simp only [nadd_eq]; omega) | (simp [nadd_eq]; omega))) ?_; conv => whnf) | (refine arI64 (by omega) (by omega) ?_; conv => whnf) | (refine arU32 (by omega) (by omega) ?_; conv => whnf) | (refine arU8 (by omega) (by omega) ?_; conv => whnf)))
      refine ⟨i + 1, by omega, by omega, ?_⟩
      (conv => whnf); (refine imp_auto hA ?_; conv => whnf); refine ⟨rfl, rfl, rfl, (by repeat' (first | exact trivial | exact rfl | apply And.intro)), ?_, rfl⟩
      refine ⟨(by repeat' (first | exact trivial | exact rfl | (intro _ _; exact rfl) | (intro _ hj; exact absurd hj (Nat.not_lt_zero _)) | exact Nat.le_refl _ | exact Or.inl (Or.inl (And.intro (fun h => h) rfl)) | exact Or.inl rfl | apply And.intro)), rfl, ⟨rfl, rfl, fun j hj => ?_⟩, (by repeat' (first | exact trivial | exact rfl | (intro _ _; exact rfl) | (intro _ hj; exact absurd hj (Nat.not_lt_zero _)) | exact Nat.le_refl _ | exact Or.inl (Or.inl (And.intro (fun h => h) rfl)) | exact Or.inl rfl | apply And.intro))⟩
      refine snoc_rows (f := clhE (fun i => i + 1) (fun _ => 0) fun _ => 0) (i := i) rfl j hj
    · obtain rfl : i = m := by omega
      conv => whnf
      (refine fin_close (H := (clhH0 i M (fun _ => 0) (fun _ => -1) (fun i => i + 1) (fun _ => 0) fun _ => 0)) (np := 3) 3 0 (Nat.le_of_ble_eq_true rfl) ?_; conv => whnf); (refine ⟨⟨rfl, by omega, rfl, rfl, (by repeat' (first | exact trivial | exact rfl | (intro _ _; exact rfl) | (intro _ hj; exact absurd hj (Nat.not_lt_zero _)) | exact Nat.le_refl _ | exact Or.inl (Or.inl (And.intro (fun h => h) rfl)) | exact Or.inl rfl | apply And.intro)), rfl⟩, ?_⟩)
      (refine fin_auto ?_; conv => whnf); exact ⟨rfl, rfl, rfl, rfl, (by repeat' (first | exact trivial | exact rfl | (intro _ _; exact rfl) | (intro _ hj; exact absurd hj (Nat.not_lt_zero _)) | exact Nat.le_refl _ | exact Or.inl (Or.inl (And.intro (fun h => h) rfl)) | exact Or.inl rfl | apply And.intro)), rfl⟩
end Go.Proofs.YtmccmanekbiadaaDoor
