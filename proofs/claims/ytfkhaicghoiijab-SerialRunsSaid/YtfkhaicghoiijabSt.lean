/- Serial*: jobs, one by one. -/
import Derived.Test.YtfkhaicghoiijabSs
set_option linter.unusedSimpArgs false
namespace Go.Proofs.Ytfkhaicghoiijab
open Go Go.Sx

/-- Jobs, as they are handed in. -/
structure Jb where
  n : Nat
  nj : Nat → Nat
  w : Nat → Nat → Int
  nd : Nat → Nat → Nat
  d : Nat → Nat → Nat → Dd
def ddC (x : Dd) : Nat → DV
  | 0 => .v (.int .i64 x.k)
  | 1 => .v (.int .i64 x.c)
  | _ => .v (.int .u32 x.n)
def jobC (b : Jb) (t j : Nat) : Nat → DV
  | 0 => .v (.int .i64 (b.w t j))
  | _ => .sl 3 (b.nd t j) fun l => ddC (b.d t j l)
def jobsD (b : Jb) : DV := .sl 1 b.n fun t _ => .sl 2 (b.nj t) (jobC b t)
def ranE (T J : Nat → Int) : Nat → List Value := fun i => [.int .i64 (T i), .int .i64 (J i)]
def jobOK (b : Jb) (t j : Int) : Bool := decide (0 ≤ t ∧ t < (b.n : Int) ∧ 0 ≤ j ∧ j < (b.nj t.toNat : Int))
def serC (b : Jb) (T J : Nat → Int) (c : Nat → Int) : Nat → Nat → Int
  | 0 => c
  | i + 1 => (runC (b.d (T i).toNat (J i).toNat) (serC b T J c i) (b.nd (T i).toNat (J i).toNat)).1
def okT (b : Jb) (T J : Nat → Int) (m : Nat) : Bool := allB (fun i => jobOK b (T i) (J i)) m
/-- What is handed in is not past all bounds. -/
def Jb.small (b : Jb) : Prop := b.n ≤ 5864062014634 ∧ (∀ t, t < b.n → b.nj t ≤ 5864062014634) ∧ ∀ t, t < b.n → ∀ j, j < b.nj t → b.nd t j ≤ 5864062014634
set_option maxHeartbeats 2000000 in
set_option maxRecDepth 4000 in
theorem serial_spec (b : Jb) (hb : b.small) (T J : Nat → Int) (m : Nat) (c : Nat → Int) (hm : m ≤ 5864062014634) :
    FSpec Try.prog 12 [(0, some (.dp false (jobsD b))), (1, some (.ro 2 m (ranE T J)))] 2 [.a (cellsC c), .l (.fs 0 [] 1 0 b.n 0), .l (.s 1 2 0 m 0)] fun x h n =>
      x = .t [.a (cellsC (if okT b T J m = true then serC b T J c m else c)), .l (.v (.int .i64 (if okT b T J m = true then 0 else 1)))] ∧ n = 2 ∧ h = [] := by
  obtain ⟨hb1, hb2, hb3⟩ := hb
  refine spec_of_ev Try.func12 ic12_eq (rs := [.ca 6 16, .t 7]) (by kernel_rfl) (by kernel_rfl) (by kernel_rfl) fun G hP hA => ?_
  unfold evF ic12
  conv => whnf
  refine loop_auto (α := Nat) (ds := []) (N := 6) (fun i => [(14, sInt .i64 (i : Int))]) [] (fun i => [(4, some (.st (cellsC (serC b T J c i))))])
    (fun i => i ≤ m ∧ okT b T J i = true) (fun i => m - i) 0 ⟨Nat.zero_le _, rfl⟩ ?_ fun i hi => ?_
  · (conv => whnf); (refine imp_auto hA ?_; conv => whnf); exact ⟨rfl, rfl, rfl, (by repeat' (first | exact trivial | exact rfl | apply And.intro)), (by repeat' (first | exact trivial | exact rfl | (intro _ _; exact rfl) | (intro _ hj; exact absurd hj (Nat.not_lt_zero _)) | exact Nat.le_refl _ | exact Or.inl (Or.inl (And.intro (fun h => h) rfl)) | apply And.intro)), rfl⟩
  · have hni : nadd 0 ((i : Nat) : Int).toNat = i := by simp [nadd_eq]
    conv => whnf
    refine dsplit (fun h1 => ?_) (fun h1 => ?_)
    · conv => whnf
      (repeat' (first | (refine And.intro (by (first | omega | assumption | (simp only [nadd_eq]; omega) | (simp [nadd_eq]; omega))) ?_; conv => whnf) | (refine arI64 (by omega) (by omega) ?_; conv => whnf) | (refine arU32 (by omega) (by omega) ?_; conv => whnf) | (refine arU8 (by omega) (by omega) ?_; conv => whnf)))
      rw [hni]
      obtain ⟨hi0, ha⟩ := hi
      have bad : jobOK b (T i) (J i) = false → okT b T J m = false := fun hf => by
        rw [Bool.eq_false_iff]
        intro hh
        simp only [okT, allB_iff] at hh
        rw [hh i (by omega)] at hf
        cases hf
      conv => whnf
      (refine drawP_intro (by rw [hP]; exact follows) (by kernel_rfl) ?_; conv => whnf)
      refine dsplit (fun h2 => ?_) (fun h2 => ?_)
      · have hf := bad (by unfold jobOK; rw [decide_eq_false_iff_not]; omega)
        rw [hf]
        conv => whnf
        (repeat (refine And.intro (by (conv => whnf); first | exact ⟨rfl, rfl, rfl⟩ | (refine And.intro (by omega) ?_; (conv => whnf); exact ⟨rfl, rfl, rfl⟩)) ?_; conv => whnf))
        conv => whnf
        (refine fin_auto ?_; conv => whnf); exact ⟨rfl, rfl, rfl, rfl, (by repeat' (first | exact trivial | exact rfl | (intro _ _; exact rfl) | (intro _ hj; exact absurd hj (Nat.not_lt_zero _)) | exact Nat.le_refl _ | exact Or.inl (Or.inl (And.intro (fun h => h) rfl)) | apply And.intro)), rfl⟩
      · conv => whnf
        refine dsplit (fun h3 => ?_) (fun h3 => ?_)
        · have hf := bad (by unfold jobOK; rw [decide_eq_false_iff_not]; omega)
          rw [hf]
          conv => whnf
          (repeat (refine And.intro (by (conv => whnf); first | exact ⟨rfl, rfl, rfl⟩ | (refine And.intro (by omega) ?_; (conv => whnf); exact ⟨rfl, rfl, rfl⟩)) ?_; conv => whnf))
          conv => whnf
          (refine fin_auto ?_; conv => whnf); exact ⟨rfl, rfl, rfl, rfl, (by repeat' (first | exact trivial | exact rfl | (intro _ _; exact rfl) | (intro _ hj; exact absurd hj (Nat.not_lt_zero _)) | exact Nat.le_refl _ | exact Or.inl (Or.inl (And.intro (fun h => h) rfl)) | apply And.intro)), rfl⟩
        · conv => whnf
          refine dsplit (fun h4 => ?_) (fun h4 => ?_)
          · have hf := bad (by unfold jobOK; rw [decide_eq_false_iff_not]; omega)
            rw [hf]
            conv => whnf
            (repeat (refine And.intro (by (conv => whnf); first | exact ⟨rfl, rfl, rfl⟩ | (refine And.intro (by omega) ?_; (conv => whnf); exact ⟨rfl, rfl, rfl⟩)) ?_; conv => whnf))
            conv => whnf
            (refine fin_auto ?_; conv => whnf); exact ⟨rfl, rfl, rfl, rfl, (by repeat' (first | exact trivial | exact rfl | (intro _ _; exact rfl) | (intro _ hj; exact absurd hj (Nat.not_lt_zero _)) | exact Nat.le_refl _ | exact Or.inl (Or.inl (And.intro (fun h => h) rfl)) | apply And.intro)), rfl⟩
          · obtain ⟨t, ht⟩ : ∃ t : Nat, T i = (t : Int) := ⟨(T i).toNat, by omega⟩
            obtain ⟨j, hj⟩ : ∃ j : Nat, J i = (j : Int) := ⟨(J i).toNat, by omega⟩
            have hnt : nadd 0 ((t : Nat) : Int).toNat = t := by simp [nadd_eq]
            have hnj : nadd 0 ((j : Nat) : Int).toNat = j := by simp [nadd_eq]
            rw [ht, hj]
            conv => whnf
            (repeat' (first | (refine And.intro (by (first | omega | assumption | (simp only [nadd_eq]; omega) | (simp [nadd_eq]; omega))) ?_; conv => whnf) | (refine arI64 (by omega) (by omega) ?_; conv => whnf) | (refine arU32 (by omega) (by omega) ?_; conv => whnf) | (refine arU8 (by omega) (by omega) ?_; conv => whnf)))
            rw [hnt]
            conv => whnf
            refine dsplit (fun h5 => ?_) (fun h5 => ?_)
            · have hf := bad (by unfold jobOK; rw [decide_eq_false_iff_not, ht, hj, Int.toNat_natCast]; omega)
              rw [hf]
              conv => whnf
              (refine fin_auto ?_; conv => whnf); exact ⟨rfl, rfl, rfl, rfl, (by repeat' (first | exact trivial | exact rfl | (intro _ _; exact rfl) | (intro _ hj; exact absurd hj (Nat.not_lt_zero _)) | exact Nat.le_refl _ | exact Or.inl (Or.inl (And.intro (fun h => h) rfl)) | apply And.intro)), rfl⟩
            · have hok : okT b T J (i + 1) = true := by
                simp only [okT, allB, Bool.and_eq_true]
                exact ⟨ha, by unfold jobOK; rw [decide_eq_true_iff, ht, hj, Int.toNat_natCast]; omega⟩
              have htl : t < b.n := by omega
              have hjl : j < b.nj t := by omega
              have hnd := hb3 t htl j hjl
              have hser : serC b T J c (i + 1) = (runC (b.d t j) (serC b T J c i) (b.nd t j)).1 := by
                simp only [serC, ht, hj, Int.toNat_natCast]
              have hrun := run_spec (b.d t j) (b.nd t j) (serC b T J c i) (by omega)
              conv => whnf
              (refine drawP_intro (by rw [hP]; exact follows) (by kernel_rfl) ?_; conv => whnf)
              (repeat' (first | (refine And.intro (by (first | omega | assumption | (simp only [nadd_eq]; omega) | (simp [nadd_eq]; omega))) ?_; conv => whnf) | (refine arI64 (by omega) (by omega) ?_; conv => whnf) | (refine arU32 (by omega) (by omega) ?_; conv => whnf) | (refine arU8 (by omega) (by omega) ?_; conv => whnf)))
              rw [hnt]
              conv => whnf
              (repeat' (first | (refine And.intro (by (first | omega | assumption | (simp only [nadd_eq]; omega) | (simp [nadd_eq]; omega))) ?_; conv => whnf) | (refine arI64 (by omega) (by omega) ?_; conv => whnf) | (refine arU32 (by omega) (by omega) ?_; conv => whnf) | (refine arU8 (by omega) (by omega) ?_; conv => whnf)))
              rw [hnj]
              conv => whnf
              refine callD_flat_at 1 (fun l => ddE (b.d t j) l) rfl rfl rfl ?_ ?_ ?_
              · exact Nat.le_of_eq (Nat.zero_add _)
              · intro l hl
                refine ⟨rfl, fun cc hcc => ?_⟩
                rw [Nat.zero_add]
                rcases (show cc = 0 ∨ cc = 1 ∨ cc = 2 from by omega) with rfl | rfl | rfl
                · exact ⟨_, rfl, rfl⟩
                · exact ⟨_, rfl, rfl⟩
                · exact ⟨_, rfl, rfl⟩
              conv => whnf
              (refine callD_auto hP (hrun) ?_; conv => whnf); (refine ⟨⟨rfl, rfl, rfl, (by repeat' (first | exact trivial | exact rfl | (intro _ _; exact rfl) | (intro _ hj; exact absurd hj (Nat.not_lt_zero _)) | exact Nat.le_refl _ | exact Or.inl (Or.inl (And.intro (fun h => h) rfl)) | apply And.intro)), rfl, rfl⟩, ?_⟩; conv => whnf)
              (repeat (refine And.intro (by (conv => whnf); first | exact ⟨rfl, rfl, rfl⟩ | (refine And.intro (by omega) ?_; (conv => whnf); exact ⟨rfl, rfl, rfl⟩)) ?_; conv => whnf))
              conv => whnf
              (repeat' (first | (refine And.intro (by (first | omega | assumption | (simp only [nadd_eq]; omega) | (simp [nadd_eq]; omega))) ?_; conv => whnf) | (refine arI64 (by omega) (by omega) ?_; conv => whnf) | (refine arU32 (by omega) (by omega) ?_; conv => whnf) | (refine arU8 (by omega) (by omega) ?_; conv => whnf)))
              refine ⟨i + 1, ⟨by omega, hok⟩, by omega, ?_⟩
              rw [hser]
              (conv => whnf); (refine imp_auto hA ?_; conv => whnf); exact ⟨rfl, rfl, rfl, (by repeat' (first | exact trivial | exact rfl | apply And.intro)), (by repeat' (first | exact trivial | exact rfl | (intro _ _; exact rfl) | (intro _ hj; exact absurd hj (Nat.not_lt_zero _)) | exact Nat.le_refl _ | exact Or.inl (Or.inl (And.intro (fun h => h) rfl)) | apply And.intro)), rfl⟩
    · obtain ⟨hi, ha⟩ := hi
      obtain rfl : i = m := by omega
      rw [ha]
      conv => whnf
      (refine fin_auto ?_; conv => whnf); exact ⟨rfl, rfl, rfl, rfl, (by repeat' (first | exact trivial | exact rfl | (intro _ _; exact rfl) | (intro _ hj; exact absurd hj (Nat.not_lt_zero _)) | exact Nat.le_refl _ | exact Or.inl (Or.inl (And.intro (fun h => h) rfl)) | apply And.intro)), rfl⟩
end Go.Proofs.Ytfkhaicghoiijab
