/- Serial*: the document's sections. -/
import Derived.Test.YtfkhaicghoiijabSr
set_option linter.unusedSimpArgs false
namespace Go.Proofs.Ytfkhaicghoiijab
open Go Go.Sx

theorem ref_spec (D : Nat → Dd) (m : Nat) (hm : m ≤ 5864062014634) :
    FSpec Try.prog 14 [(0, some (.ro 3 m (ddE D)))] 1 [.l (.s 0 3 0 m 0)] fun x h n =>
      x = .o (.l (.s 1 3 0 m 0)) ∧ n = 2 ∧ h = [(1, some (.ar 3 m (ddE D)))] := by
  refine spec_of_ev Try.func14 ic14_eq (rs := [.t 2]) (by kernel_rfl) (by kernel_rfl) (by kernel_rfl) fun G hP hA => ?_
  unfold evF ic14
  conv => whnf
  refine loop_auto (α := Nat) (ds := []) (N := 2) (fun i => [(3, .o (.l (.s 1 3 0 i 0))), (8, sInt .i64 (i : Int))]) [] (fun i => [(1, some (.ar 3 i (ddE D)))])
    (fun i => i ≤ m) (fun i => m - i) 0 (Nat.zero_le _) ?_ fun i hi => ?_
  · conv => whnf
    refine Imp.trans (imp_nil 3 3 (ddE D) rfl) ?_
    (conv => whnf); (refine imp_auto hA ?_; conv => whnf); exact ⟨rfl, rfl, rfl, (by repeat' (first | exact trivial | exact rfl | apply And.intro)), (by repeat' (first | exact trivial | exact rfl | (intro _ _; exact rfl) | (intro _ hj; exact absurd hj (Nat.not_lt_zero _)) | exact Nat.le_refl _ | exact Or.inl (Or.inl (And.intro (fun h => h) rfl)) | apply And.intro)), rfl⟩
  · have hni : nadd 0 ((i : Nat) : Int).toNat = i := by simp [nadd_eq]
    conv => whnf
    refine dsplit (fun h1 => ?_) (fun h1 => ?_)
    · conv => whnf
      (repeat' (first | (refine And.intro (by (first | omega | assumption | (simp only [nadd_eq]; omega) | (simp [nadd_eq]; omega))) ?_; conv => whnf) | (refine arI64 (by omega) (by omega) ?_; conv => whnf) | (refine arU32 (by omega) (by omega) ?_; conv => whnf) | (refine arU8 (by omega) (by omega) ?_; conv => whnf)))
      rw [hni]
      conv => whnf
      refine ⟨i + 1, by omega, by omega, ?_⟩
      (conv => whnf); (refine imp_auto hA ?_; conv => whnf); refine ⟨rfl, rfl, rfl, (by repeat' (first | exact trivial | exact rfl | apply And.intro)), ?_, rfl⟩
      refine And.intro (And.intro rfl (And.intro rfl fun j hj => ?_)) (by repeat' (first | exact trivial | exact rfl | (intro _ _; exact rfl) | (intro _ hj; exact absurd hj (Nat.not_lt_zero _)) | exact Nat.le_refl _ | exact Or.inl (Or.inl (And.intro (fun h => h) rfl)) | apply And.intro))
      exact snoc_rows (f := ddE D) (i := i) rfl j hj
    · obtain rfl : i = m := by omega
      conv => whnf
      (refine fin_auto ?_; conv => whnf); exact ⟨rfl, rfl, rfl, rfl, (by repeat' (first | exact trivial | exact rfl | (intro _ _; exact rfl) | (intro _ hj; exact absurd hj (Nat.not_lt_zero _)) | exact Nat.le_refl _ | exact Or.inl (Or.inl (And.intro (fun h => h) rfl)) | apply And.intro)), rfl⟩
def mayB (d : Dd) : Bool := if d.k = 2 ∨ d.k = 3 then decide (d.c = 0) else decide ((d.k = 1 ∨ d.k = 4) ∧ 0 ≤ d.c ∧ d.c < 16 ∧ d.n = 0)
theorem may_spec (d : Dd) : FSpec Try.prog 26 [] 0 [.a [.v (.int .i64 d.k), .v (.int .i64 d.c), .v (.int .u32 d.n)]] fun x h n => x = sBool (mayB d) ∧ n = 0 ∧ h = [] := by
  refine spec_of_ev Try.func26 ic26_eq (rs := [.t 2]) (by kernel_rfl) (by kernel_rfl) (by kernel_rfl) fun G hP hA => ?_
  unfold evF ic26
  conv => whnf
  (repeat' (first | (refine join_plain ?_; conv => whnf) | (refine dsplit (fun _ => ?_) (fun _ => ?_) <;> conv => whnf)))
  all_goals (((refine fin_auto ?_; conv => whnf); refine ⟨rfl, rfl, rfl, bool_fin ?_, (by repeat' (first | exact trivial | exact rfl | (intro _ _; exact rfl) | (intro _ hj; exact absurd hj (Nat.not_lt_zero _)) | exact Nat.le_refl _ | exact Or.inl (Or.inl (And.intro (fun h => h) rfl)) | apply And.intro)), rfl⟩); rw [Bool.eq_iff_iff]; unfold mayB; split <;> simp only [Bool.false_eq_true, Bool.and_eq_true, decide_eq_true_eq, false_iff] <;> omega)
def allB (p : Nat → Bool) : Nat → Bool
  | 0 => true
  | n + 1 => allB p n && p n
theorem allB_iff (p : Nat → Bool) : ∀ n, allB p n = true ↔ ∀ i, i < n → p i = true
  | 0 => by simp [allB]
  | n + 1 => by
    simp only [allB, Bool.and_eq_true, allB_iff p n]
    constructor
    · intro h i hi
      rcases Nat.lt_succ_iff_lt_or_eq.1 hi with h1 | h1
      · exact h.1 i h1
      · subst h1; exact h.2
    · exact fun h => ⟨fun i hi => h i (by omega), h n (by omega)⟩
def fineB (D : Nat → Dd) (m : Nat) : Bool := allB (fun i => mayB (D i)) m && decide (m ≤ 64)
theorem fine_spec (D : Nat → Dd) (m : Nat) (hm : m ≤ 5864062014634) :
    FSpec Try.prog 11 [(0, some (.ro 3 m (ddE D)))] 1 [.l (.s 0 3 0 m 0)] fun x h n => x = sBool (fineB D m) ∧ n = 1 ∧ h = [] := by
  refine spec_of_ev Try.func11 ic11_eq (rs := [.t 2]) (by kernel_rfl) (by kernel_rfl) (by kernel_rfl) fun G hP hA => ?_
  unfold evF ic11
  conv => whnf
  (refine call_auto hP (ref_spec D m hm) ?_; conv => whnf); (refine ⟨⟨rfl, rfl, rfl, (by repeat' (first | exact trivial | exact rfl | (intro _ _; exact rfl) | (intro _ hj; exact absurd hj (Nat.not_lt_zero _)) | exact Nat.le_refl _ | exact Or.inl (Or.inl (And.intro (fun h => h) rfl)) | apply And.intro)), rfl, rfl⟩, ?_⟩; conv => whnf)
  refine loop_auto (α := Nat) (ds := []) (N := 2) (fun i => [(8, sInt .i64 (i : Int))]) [] (fun _ => [])
    (fun i => i ≤ m ∧ allB (fun i => mayB (D i)) i = true) (fun i => m - i) 0 ⟨Nat.zero_le _, rfl⟩ ?_ fun i hi => ?_
  · (conv => whnf); (refine imp_auto hA ?_; conv => whnf); exact ⟨rfl, rfl, rfl, (by repeat' (first | exact trivial | exact rfl | apply And.intro)), (by repeat' (first | exact trivial | exact rfl | (intro _ _; exact rfl) | (intro _ hj; exact absurd hj (Nat.not_lt_zero _)) | exact Nat.le_refl _ | exact Or.inl (Or.inl (And.intro (fun h => h) rfl)) | apply And.intro)), rfl⟩
  · have hni : nadd 0 ((i : Nat) : Int).toNat = i := by simp [nadd_eq]
    conv => whnf
    refine dsplit (fun h1 => ?_) (fun h1 => ?_)
    · conv => whnf
      (repeat' (first | (refine And.intro (by (first | omega | assumption | (simp only [nadd_eq]; omega) | (simp [nadd_eq]; omega))) ?_; conv => whnf) | (refine arI64 (by omega) (by omega) ?_; conv => whnf) | (refine arU32 (by omega) (by omega) ?_; conv => whnf) | (refine arU8 (by omega) (by omega) ?_; conv => whnf)))
      rw [hni]
      conv => whnf
      (refine call_auto hP (may_spec (D i)) ?_; conv => whnf); (refine ⟨⟨rfl, rfl, rfl, (by repeat' (first | exact trivial | exact rfl | (intro _ _; exact rfl) | (intro _ hj; exact absurd hj (Nat.not_lt_zero _)) | exact Nat.le_refl _ | exact Or.inl (Or.inl (And.intro (fun h => h) rfl)) | apply And.intro)), rfl, rfl⟩, ?_⟩; conv => whnf)
      refine nbsplit (fun h2 => ?_) (fun h2 => ?_)
      · conv => whnf
        (refine fin_auto ?_; conv => whnf)
        refine ⟨rfl, rfl, rfl, bool_fin ?_, trivial, rfl⟩
        symm
        rw [Bool.eq_false_iff]
        intro hf
        simp only [fineB, Bool.and_eq_true, allB_iff] at hf
        rw [hf.1 i (by omega)] at h2
        cases h2
      · conv => whnf
        (repeat' (first | (refine And.intro (by (first | omega | assumption | (simp only [nadd_eq]; omega) | (simp [nadd_eq]; omega))) ?_; conv => whnf) | (refine arI64 (by omega) (by omega) ?_; conv => whnf) | (refine arU32 (by omega) (by omega) ?_; conv => whnf) | (refine arU8 (by omega) (by omega) ?_; conv => whnf)))
        refine ⟨i + 1, ⟨by omega, by simp [allB, hi.2, h2]⟩, by omega, ?_⟩
        (conv => whnf); (refine imp_auto hA ?_; conv => whnf); exact ⟨rfl, rfl, rfl, (by repeat' (first | exact trivial | exact rfl | apply And.intro)), (by repeat' (first | exact trivial | exact rfl | (intro _ _; exact rfl) | (intro _ hj; exact absurd hj (Nat.not_lt_zero _)) | exact Nat.le_refl _ | exact Or.inl (Or.inl (And.intro (fun h => h) rfl)) | apply And.intro)), rfl⟩
    · obtain ⟨hi, ha⟩ := hi
      obtain rfl : i = m := by omega
      conv => whnf
      (refine fin_auto ?_; conv => whnf)
      refine ⟨rfl, rfl, rfl, bool_fin ?_, trivial, rfl⟩
      unfold fineB
      rw [ha, Bool.true_and, decide_eq_decide]
      omega
set_option maxHeartbeats 1000000 in
theorem run22_spec (D : Nat → Dd) (m : Nat) (c : Nat → Int) (n : Int) (q : Nat) (hq : q = (min (max n 0) m).toNat) (hm : m ≤ 5864062014634) (hn : n ≤ 1000000000) (hD : ∀ i, i < m → (D i).k = 1 ∨ (D i).k = 4 → 0 ≤ (D i).c ∧ (D i).c < 16) :
    FSpec Try.prog 13 [(0, some (.ro 3 m (ddE D)))] 1 [.a (cellsC c), .l (.s 0 3 0 m 0), .l (.v (.int .i64 n))] fun x h k =>
      x = .t [.a (cellsC (runC D c q).1), .l (.v (.int .u32 (runC D c q).2))] ∧ k = 1 ∧ h = [] := by
  refine spec_of_ev Try.func13 ic13_eq (rs := [.ca 6 16, .t 7]) (by kernel_rfl) (by kernel_rfl) (by kernel_rfl) fun G hP hA => ?_
  unfold evF ic13
  conv => whnf
  refine loop_auto (α := Nat) (ds := []) (N := 3) (fun i => [(8, sInt .u32 (runC D c i).2), (9, sInt .i64 (i : Int))]) [] (fun i => [(1, some (.st (cellsC (runC D c i).1)))])
    (fun i => i ≤ q) (fun i => m - i) 0 (Nat.zero_le _) ?_ fun i hi => ?_
  · (conv => whnf); (refine imp_auto hA ?_; conv => whnf); exact ⟨rfl, rfl, rfl, (by repeat' (first | exact trivial | exact rfl | apply And.intro)), (by repeat' (first | exact trivial | exact rfl | (intro _ _; exact rfl) | (intro _ hj; exact absurd hj (Nat.not_lt_zero _)) | exact Nat.le_refl _ | exact Or.inl (Or.inl (And.intro (fun h => h) rfl)) | apply And.intro)), rfl⟩
  · have hni : nadd 0 ((i : Nat) : Int).toNat = i := by simp [nadd_eq]
    conv => whnf
    refine dsplit (fun h1 => ?_) (fun h1 => ?_)
    · conv => whnf
      refine dsplit (fun h2 => ?_) (fun h2 => ?_)
      · conv => whnf
        (refine join_plain ?_; conv => whnf)
        (repeat' (first | (refine And.intro (by (first | omega | assumption | (simp only [nadd_eq]; omega) | (simp [nadd_eq]; omega))) ?_; conv => whnf) | (refine arI64 (by omega) (by omega) ?_; conv => whnf) | (refine arU32 (by omega) (by omega) ?_; conv => whnf) | (refine arU8 (by omega) (by omega) ?_; conv => whnf)))
        rw [hni]
        have him : i < m := by omega
        have hDi := hD i him
        have hiq : i + 1 ≤ q := by omega
        have hmu : m - (i + 1) < m - i := by omega
        have hs : ∀ (c' : Nat → Int) (r' : Int), cell1 (D i) (runC D c i).1 (runC D c i).2 = c' → reg1 (D i) (runC D c i).1 (runC D c i).2 = r' → (runC D c (i + 1)).1 = c' ∧ (runC D c (i + 1)).2 = r' := fun c' r' h1 h2 => ⟨h1, h2⟩
        have hix : (D i).k = 1 ∨ (D i).k = 4 → ∃ j : Nat, j < 16 ∧ (D i).c = (j : Int) ∧ idx (D i) = j := fun h => ⟨(D i).c.toNat, by omega, by omega, by unfold idx; omega⟩
        refine dsplit (fun h3 => ?_) (fun h3 => ?_)
        · obtain ⟨j, hj, hje, hjx⟩ := hix (.inl h3)
          obtain ⟨e1, e2⟩ := hs (runC D c i).1 ((runC D c i).1 j) (by unfold cell1; rw [if_neg (by omega)]) (by unfold reg1; rw [if_pos h3, hjx])
          conv => whnf
          (repeat' (first | (refine And.intro (by (first | omega | assumption | (simp only [nadd_eq]; omega) | (simp [nadd_eq]; omega))) ?_; conv => whnf) | (refine arI64 (by omega) (by omega) ?_; conv => whnf) | (refine arU32 (by omega) (by omega) ?_; conv => whnf) | (refine arU8 (by omega) (by omega) ?_; conv => whnf)))
          rw [hni, hje]
          (repeat' (first | (refine And.intro (by (first | omega | assumption | (simp only [nadd_eq]; omega) | (simp [nadd_eq]; omega))) ?_; conv => whnf) | (refine arI64 (by omega) (by omega) ?_; conv => whnf) | (refine arU32 (by omega) (by omega) ?_; conv => whnf) | (refine arU8 (by omega) (by omega) ?_; conv => whnf)))
          rcases (show j = 0 ∨ j = 1 ∨ j = 2 ∨ j = 3 ∨ j = 4 ∨ j = 5 ∨ j = 6 ∨ j = 7 ∨ j = 8 ∨ j = 9 ∨ j = 10 ∨ j = 11 ∨ j = 12 ∨ j = 13 ∨ j = 14 ∨ j = 15 from by omega) with rfl | rfl | rfl | rfl | rfl | rfl | rfl | rfl | rfl | rfl | rfl | rfl | rfl | rfl | rfl | rfl
          all_goals ((conv => whnf); (repeat' (first | (refine And.intro (by (first | omega | assumption | (simp only [nadd_eq]; omega) | (simp [nadd_eq]; omega))) ?_; conv => whnf) | (refine arI64 (by omega) (by omega) ?_; conv => whnf) | (refine arU32 (by omega) (by omega) ?_; conv => whnf) | (refine arU8 (by omega) (by omega) ?_; conv => whnf))); (refine ⟨i + 1, hiq, hmu, ?_⟩); (rw [e1, e2]); (conv => whnf); (refine imp_auto hA ?_; conv => whnf); exact ⟨rfl, rfl, rfl, (by repeat' (first | exact trivial | exact rfl | apply And.intro)), (by repeat' (first | exact trivial | exact rfl | (intro _ _; exact rfl) | (intro _ hj; exact absurd hj (Nat.not_lt_zero _)) | exact Nat.le_refl _ | exact Or.inl (Or.inl (And.intro (fun h => h) rfl)) | apply And.intro)), rfl⟩)
        · conv => whnf
          refine dsplit (fun h4 => ?_) (fun h4 => ?_)
          · obtain ⟨e1, e2⟩ := hs (runC D c i).1 (wr ((runC D c i).2 + (D i).n)) (by unfold cell1; rw [if_neg (by omega)]) (by unfold reg1; rw [if_neg h3, if_pos h4])
            conv => whnf
            (repeat' (first | (refine And.intro (by (first | omega | assumption | (simp only [nadd_eq]; omega) | (simp [nadd_eq]; omega))) ?_; conv => whnf) | (refine arI64 (by omega) (by omega) ?_; conv => whnf) | (refine arU32 (by omega) (by omega) ?_; conv => whnf) | (refine arU8 (by omega) (by omega) ?_; conv => whnf)))
            rw [hni]
            refine arW ?_
            conv => whnf
            (repeat' (first | (refine And.intro (by (first | omega | assumption | (simp only [nadd_eq]; omega) | (simp [nadd_eq]; omega))) ?_; conv => whnf) | (refine arI64 (by omega) (by omega) ?_; conv => whnf) | (refine arU32 (by omega) (by omega) ?_; conv => whnf) | (refine arU8 (by omega) (by omega) ?_; conv => whnf)))
            refine ⟨i + 1, hiq, hmu, ?_⟩
            rw [e1, e2]
            (conv => whnf); (refine imp_auto hA ?_; conv => whnf); exact ⟨rfl, rfl, rfl, (by repeat' (first | exact trivial | exact rfl | apply And.intro)), (by repeat' (first | exact trivial | exact rfl | (intro _ _; exact rfl) | (intro _ hj; exact absurd hj (Nat.not_lt_zero _)) | exact Nat.le_refl _ | exact Or.inl (Or.inl (And.intro (fun h => h) rfl)) | apply And.intro)), rfl⟩
          · conv => whnf
            refine dsplit (fun h5 => ?_) (fun h5 => ?_)
            · obtain ⟨e1, e2⟩ := hs (runC D c i).1 (wr ((runC D c i).2 * (D i).n)) (by unfold cell1; rw [if_neg (by omega)]) (by unfold reg1; rw [if_neg h3, if_neg h4, if_pos h5])
              conv => whnf
              (repeat' (first | (refine And.intro (by (first | omega | assumption | (simp only [nadd_eq]; omega) | (simp [nadd_eq]; omega))) ?_; conv => whnf) | (refine arI64 (by omega) (by omega) ?_; conv => whnf) | (refine arU32 (by omega) (by omega) ?_; conv => whnf) | (refine arU8 (by omega) (by omega) ?_; conv => whnf)))
              rw [hni]
              refine arW ?_
              conv => whnf
              (repeat' (first | (refine And.intro (by (first | omega | assumption | (simp only [nadd_eq]; omega) | (simp [nadd_eq]; omega))) ?_; conv => whnf) | (refine arI64 (by omega) (by omega) ?_; conv => whnf) | (refine arU32 (by omega) (by omega) ?_; conv => whnf) | (refine arU8 (by omega) (by omega) ?_; conv => whnf)))
              refine ⟨i + 1, hiq, hmu, ?_⟩
              rw [e1, e2]
              (conv => whnf); (refine imp_auto hA ?_; conv => whnf); exact ⟨rfl, rfl, rfl, (by repeat' (first | exact trivial | exact rfl | apply And.intro)), (by repeat' (first | exact trivial | exact rfl | (intro _ _; exact rfl) | (intro _ hj; exact absurd hj (Nat.not_lt_zero _)) | exact Nat.le_refl _ | exact Or.inl (Or.inl (And.intro (fun h => h) rfl)) | apply And.intro)), rfl⟩
            · conv => whnf
              refine dsplit (fun h6 => ?_) (fun h6 => ?_)
              · obtain ⟨j, hj, hje, hjx⟩ := hix (.inr h6)
                obtain ⟨e1, e2⟩ := hs (upd (runC D c i).1 j (runC D c i).2) (runC D c i).2 (by unfold cell1; rw [if_pos h6, hjx]) (by unfold reg1; rw [if_neg h3, if_neg h4, if_neg h5])
                conv => whnf
                (repeat' (first | (refine And.intro (by (first | omega | assumption | (simp only [nadd_eq]; omega) | (simp [nadd_eq]; omega))) ?_; conv => whnf) | (refine arI64 (by omega) (by omega) ?_; conv => whnf) | (refine arU32 (by omega) (by omega) ?_; conv => whnf) | (refine arU8 (by omega) (by omega) ?_; conv => whnf)))
                rw [hni, hje]
                (repeat' (first | (refine And.intro (by (first | omega | assumption | (simp only [nadd_eq]; omega) | (simp [nadd_eq]; omega))) ?_; conv => whnf) | (refine arI64 (by omega) (by omega) ?_; conv => whnf) | (refine arU32 (by omega) (by omega) ?_; conv => whnf) | (refine arU8 (by omega) (by omega) ?_; conv => whnf)))
                rcases (show j = 0 ∨ j = 1 ∨ j = 2 ∨ j = 3 ∨ j = 4 ∨ j = 5 ∨ j = 6 ∨ j = 7 ∨ j = 8 ∨ j = 9 ∨ j = 10 ∨ j = 11 ∨ j = 12 ∨ j = 13 ∨ j = 14 ∨ j = 15 from by omega) with rfl | rfl | rfl | rfl | rfl | rfl | rfl | rfl | rfl | rfl | rfl | rfl | rfl | rfl | rfl | rfl
                all_goals ((conv => whnf); (repeat' (first | (refine And.intro (by (first | omega | assumption | (simp only [nadd_eq]; omega) | (simp [nadd_eq]; omega))) ?_; conv => whnf) | (refine arI64 (by omega) (by omega) ?_; conv => whnf) | (refine arU32 (by omega) (by omega) ?_; conv => whnf) | (refine arU8 (by omega) (by omega) ?_; conv => whnf))); (refine ⟨i + 1, hiq, hmu, ?_⟩); (rw [e1, e2]); (conv => whnf); (refine imp_auto hA ?_; conv => whnf); exact ⟨rfl, rfl, rfl, (by repeat' (first | exact trivial | exact rfl | apply And.intro)), (by repeat' (first | exact trivial | exact rfl | (intro _ _; exact rfl) | (intro _ hj; exact absurd hj (Nat.not_lt_zero _)) | exact Nat.le_refl _ | exact Or.inl (Or.inl (And.intro (fun h => h) rfl)) | apply And.intro)), rfl⟩)
              · obtain ⟨e1, e2⟩ := hs (runC D c i).1 (runC D c i).2 (by unfold cell1; rw [if_neg h6]) (by unfold reg1; rw [if_neg h3, if_neg h4, if_neg h5])
                conv => whnf
                (repeat' (first | (refine And.intro (by (first | omega | assumption | (simp only [nadd_eq]; omega) | (simp [nadd_eq]; omega))) ?_; conv => whnf) | (refine arI64 (by omega) (by omega) ?_; conv => whnf) | (refine arU32 (by omega) (by omega) ?_; conv => whnf) | (refine arU8 (by omega) (by omega) ?_; conv => whnf)))
                refine ⟨i + 1, hiq, hmu, ?_⟩
                rw [e1, e2]
                (conv => whnf); (refine imp_auto hA ?_; conv => whnf); exact ⟨rfl, rfl, rfl, (by repeat' (first | exact trivial | exact rfl | apply And.intro)), (by repeat' (first | exact trivial | exact rfl | (intro _ _; exact rfl) | (intro _ hj; exact absurd hj (Nat.not_lt_zero _)) | exact Nat.le_refl _ | exact Or.inl (Or.inl (And.intro (fun h => h) rfl)) | apply And.intro)), rfl⟩
      · obtain rfl : i = q := by omega
        conv => whnf
        (refine fin_auto ?_; conv => whnf); exact ⟨rfl, rfl, rfl, rfl, (by repeat' (first | exact trivial | exact rfl | (intro _ _; exact rfl) | (intro _ hj; exact absurd hj (Nat.not_lt_zero _)) | exact Nat.le_refl _ | exact Or.inl (Or.inl (And.intro (fun h => h) rfl)) | apply And.intro)), rfl⟩
    · obtain rfl : i = q := by omega
      conv => whnf
      (refine fin_auto ?_; conv => whnf); exact ⟨rfl, rfl, rfl, rfl, (by repeat' (first | exact trivial | exact rfl | (intro _ _; exact rfl) | (intro _ hj; exact absurd hj (Nat.not_lt_zero _)) | exact Nat.le_refl _ | exact Or.inl (Or.inl (And.intro (fun h => h) rfl)) | apply And.intro)), rfl⟩
end Go.Proofs.Ytfkhaicghoiijab
