/- SerialRuns: the document's jobs; the document's cells. -/
import Derived.Test.YtfkhaicghoiijabTw
set_option linter.unusedSimpArgs false
set_option linter.unusedVariables false
namespace Go.Proofs.Ytfkhaicghoiijab
open Go Go.Sx

theorem snoc_dv {f g : Nat → Nat → DV} {i : Nat} {w : Nat} (hg : ∀ c, c < w → DvEqB (g 0 c) (f i c)) : ∀ j, j < i + 1 → ∀ c, c < w → DvEqB (if j < i then f j c else g (j - i) c) (f j c) := fun j hj c hc => by
  by_cases h : j < i
  · simp only [h, if_true]; exact DvEqB.refl _
  · obtain rfl : j = i := by omega
    simp only [Nat.lt_irrefl, if_false, Nat.sub_self]; exact hg c hc
set_option maxHeartbeats 2000000 in
set_option maxRecDepth 4000 in
theorem ref17_spec (b : Jb) (hb : b.small) (hf : ∀ t, t < b.n → ∀ j, j < b.nj t → b.nd t j ≤ 70) (hn : b.n ≤ 12) (hnj : ∀ t, t < b.n → b.nj t ≤ 60) : FSpec Try.prog 17 [(0, some (.dp false (jobsD b)))] 1 [.l (.fs 0 [] 1 0 b.n 0)] fun x h n =>
    x = .o (.l (.fs 1 [] 1 0 b.n 0)) ∧ n = 2 ∧ h = [(1, some (.dp true (jobsD b)))] := by
  obtain ⟨hb1, hb2, hb3⟩ := id hb
  refine spec_of_ev Try.func17 ic17_eq (rs := [.t 2]) (by kernel_rfl) (by kernel_rfl) (by kernel_rfl) fun G hP hA => ?_
  unfold evF ic17
  conv => whnf
  refine loop_auto (α := Nat) (ds := []) (N := 2) (fun t => [(3, .o (.l (.fs 1 [] 1 0 t 0))), (11, sInt .i64 (t : Int))]) [] (fun t => [(1, some (.dp true (.sl 1 t fun t _ => .sl 2 (b.nj t) (jobC b t))))])
    (fun t => t ≤ b.n) (fun t => b.n - t) 0 (Nat.zero_le _) ?_ fun t ht => ?_
  · conv => whnf
    refine Imp.trans (imp_nild 3 1 (fun t _ => .sl 2 (b.nj t) (jobC b t)) rfl) ?_
    (conv => whnf); (refine imp_auto hA ?_; conv => whnf); exact ⟨rfl, rfl, rfl, (by repeat' (first | exact trivial | exact rfl | apply And.intro)), (by repeat' (first | exact trivial | exact rfl | (intro _ _; exact rfl) | (intro _ hj; exact absurd hj (Nat.not_lt_zero _)) | exact Nat.le_refl _ | exact Or.inl (Or.inl (And.intro (fun h => h) rfl)) | apply And.intro)), rfl⟩
  · have hnt : nadd 0 ((t : Nat) : Int).toNat = t := by simp [nadd_eq]
    conv => whnf
    refine dsplit (fun h1 => ?_) (fun h1 => ?_)
    · have htn : t < b.n := by omega
      have hnjt := hnj t htn
      conv => whnf
      (repeat' (first | (refine And.intro (by (first | omega | assumption | (simp only [nadd_eq]; omega) | (simp [nadd_eq]; omega))) ?_; conv => whnf) | (refine arI64 (by omega) (by omega) ?_; conv => whnf) | (refine arU32 (by omega) (by omega) ?_; conv => whnf) | (refine arU8 (by omega) (by omega) ?_; conv => whnf)))
      rw [hnt]
      conv => whnf
      refine loop_auto (α := Nat) (ds := []) (N := 3) (fun j => [(6, .o (.l (.fs 2 [] 2 0 j 0))), (17, sInt .i64 (j : Int))]) [] (fun j => [(2, some (.dp true (.sl 2 j (jobC b t))))])
        (fun j => j ≤ b.nj t) (fun j => b.nj t - j) 0 (Nat.zero_le _) ?_ fun j hj => ?_
      · conv => whnf
        refine Imp.trans (imp_nild 6 2 (jobC b t) rfl) ?_
        (conv => whnf); (refine imp_auto hA ?_; conv => whnf); exact ⟨rfl, rfl, rfl, (by repeat' (first | exact trivial | exact rfl | apply And.intro)), (by repeat' (first | exact trivial | exact rfl | (intro _ _; exact rfl) | (intro _ hj; exact absurd hj (Nat.not_lt_zero _)) | exact Nat.le_refl _ | exact Or.inl (Or.inl (And.intro (fun h => h) rfl)) | apply And.intro)), rfl⟩
      · have hnj2 : nadd 0 ((j : Nat) : Int).toNat = j := by simp [nadd_eq]
        conv => whnf
        refine dsplit (fun h2 => ?_) (fun h2 => ?_)
        · replace h2 : (j : Int) < (b.nj t : Int) := h2
          have hjn : j < b.nj t := by omega
          have hfd := hf t htn j hjn
          have hrf := ref_spec (b.d t j) (b.nd t j) (by omega)
          conv => whnf
          (repeat' (first | (refine And.intro (by (first | omega | assumption | (simp only [nadd_eq]; omega) | (simp [nadd_eq]; omega))) ?_; conv => whnf) | (refine arI64 (by omega) (by omega) ?_; conv => whnf) | (refine arU32 (by omega) (by omega) ?_; conv => whnf) | (refine arU8 (by omega) (by omega) ?_; conv => whnf)))
          rw [hnj2]
          conv => whnf
          (refine drawP_intro (by rw [hP]; exact follows) (by kernel_rfl) ?_; conv => whnf)
          refine callD_flat_at 0 (fun l => ddE (b.d t j) l) rfl rfl rfl ?_ ?_ ?_
          · exact Nat.le_of_eq (Nat.zero_add _)
          · intro l hl
            refine ⟨rfl, fun cc hcc => ?_⟩
            rw [Nat.zero_add]
            rcases (show cc = 0 ∨ cc = 1 ∨ cc = 2 from by omega) with rfl | rfl | rfl
            · exact ⟨_, rfl, rfl⟩
            · exact ⟨_, rfl, rfl⟩
            · exact ⟨_, rfl, rfl⟩
          conv => whnf
          (refine callD_auto hP (hrf) ?_; conv => whnf); (refine ⟨⟨rfl, rfl, rfl, (by repeat' (first | exact trivial | exact rfl | (intro _ _; exact rfl) | (intro _ hj; exact absurd hj (Nat.not_lt_zero _)) | exact Nat.le_refl _ | exact Or.inl (Or.inl (And.intro (fun h => h) rfl)) | apply And.intro)), rfl, rfl⟩, ?_⟩; conv => whnf)
          (repeat' (first | (refine And.intro (by (first | omega | assumption | (simp only [nadd_eq]; omega) | (simp [nadd_eq]; omega))) ?_; conv => whnf) | (refine arI64 (by omega) (by omega) ?_; conv => whnf) | (refine arU32 (by omega) (by omega) ?_; conv => whnf) | (refine arU8 (by omega) (by omega) ?_; conv => whnf)))
          (repeat (refine And.intro (by (conv => whnf); first | exact ⟨rfl, rfl, rfl⟩ | (refine And.intro (by omega) ?_; (conv => whnf); exact ⟨rfl, rfl, rfl⟩)) ?_; conv => whnf))
          conv => whnf
          (repeat' (first | (refine And.intro (by (first | omega | assumption | (simp only [nadd_eq]; omega) | (simp [nadd_eq]; omega))) ?_; conv => whnf) | (refine arI64 (by omega) (by omega) ?_; conv => whnf) | (refine arU32 (by omega) (by omega) ?_; conv => whnf) | (refine arU8 (by omega) (by omega) ?_; conv => whnf)))
          refine ⟨j + 1, by omega, by omega, ?_⟩
          (conv => whnf); (refine imp_auto hA ?_; conv => whnf); refine ⟨rfl, rfl, rfl, (by repeat' (first | exact trivial | exact rfl | apply And.intro)), ?_, rfl⟩
          refine And.intro (.inl (.inr ⟨rfl, rfl, rfl, snoc_dv (f := jobC b t) (i := j) fun c hc => ?_⟩)) (by repeat' (first | exact trivial | exact rfl | (intro _ _; exact rfl) | (intro _ hj; exact absurd hj (Nat.not_lt_zero _)) | exact Nat.le_refl _ | exact Or.inl (Or.inl (And.intro (fun h => h) rfl)) | apply And.intro))
          rcases (show c = 0 ∨ c = 1 from by omega) with rfl | rfl
          · exact rfl
          · refine ⟨rfl, rfl, fun l hl cc hcc => ?_⟩
            rcases (show cc = 0 ∨ cc = 1 ∨ cc = 2 from by omega) with rfl | rfl | rfl <;> exact rfl
        · replace h2 : ¬ (j : Int) < (b.nj t : Int) := h2
          obtain rfl : j = b.nj t := by omega
          conv => whnf
          (repeat' (first | (refine And.intro (by (first | omega | assumption | (simp only [nadd_eq]; omega) | (simp [nadd_eq]; omega))) ?_; conv => whnf) | (refine arI64 (by omega) (by omega) ?_; conv => whnf) | (refine arU32 (by omega) (by omega) ?_; conv => whnf) | (refine arU8 (by omega) (by omega) ?_; conv => whnf)))
          refine ⟨t + 1, by omega, by omega, ?_⟩
          (conv => whnf); (refine imp_auto hA ?_; conv => whnf); refine ⟨rfl, rfl, rfl, (by repeat' (first | exact trivial | exact rfl | apply And.intro)), ?_, rfl⟩
          refine And.intro (.inl (.inr ⟨rfl, rfl, rfl, snoc_dv (f := fun t _ => DV.sl 2 (b.nj t) (jobC b t)) (i := t) fun c hc => ?_⟩)) (by repeat' (first | exact trivial | exact rfl | (intro _ _; exact rfl) | (intro _ hj; exact absurd hj (Nat.not_lt_zero _)) | exact Nat.le_refl _ | exact Or.inl (Or.inl (And.intro (fun h => h) rfl)) | apply And.intro))
          obtain rfl : c = 0 := by omega
          exact DvEqB.refl _
    · obtain rfl : t = b.n := by omega
      conv => whnf
      (refine fin_auto ?_; conv => whnf); exact ⟨rfl, rfl, rfl, rfl, (by repeat' (first | exact trivial | exact rfl | (intro _ _; exact rfl) | (intro _ hj; exact absurd hj (Nat.not_lt_zero _)) | exact Nat.le_refl _ | exact Or.inl (Or.inl (And.intro (fun h => h) rfl)) | apply And.intro)), rfl⟩
set_option maxHeartbeats 2000000 in
set_option maxRecDepth 4000 in
theorem serial16_spec (b : Jb) (hb : b.small) (hfine : ∀ t, t < b.n → ∀ j, j < b.nj t → fineB (b.d t j) (b.nd t j) = true) (T J : Nat → Int) (m : Nat) (c : Nat → Int) (hm : m ≤ 5864062014634) :
    FSpec Try.prog 16 [(0, some (.dp false (jobsD b))), (1, some (.ro 2 m (ranE T J)))] 2 [.a (cellsC c), .l (.fs 0 [] 1 0 b.n 0), .l (.s 1 2 0 m 0)] fun x h n =>
      x = .t [.a (cellsC (if okT b T J m = true then serC b T J c m else c)), .l (.v (.bool (okT b T J m)))] ∧ n = 2 ∧ h = [] := by
  obtain ⟨hb1, hb2, hb3⟩ := hb
  refine spec_of_ev Try.func16 ic16_eq (rs := [.ca 6 16, .t 7]) (by kernel_rfl) (by kernel_rfl) (by kernel_rfl) fun G hP hA => ?_
  unfold evF ic16
  conv => whnf
  refine loop_auto (α := Nat) (ds := []) (N := 6) (fun i => [(15, sInt .i64 (i : Int))]) [] (fun i => [(4, some (.st (cellsC (serC b T J c i))))])
    (fun i => i ≤ m ∧ okT b T J i = true) (fun i => m - i) 0 ⟨Nat.zero_le _, rfl⟩ ?_ fun i hi => ?_
  · (conv => whnf); (refine imp_auto hA ?_; conv => whnf); exact ⟨rfl, rfl, rfl, (by repeat' (first | exact trivial | exact rfl | apply And.intro)), (by repeat' (first | exact trivial | exact rfl | (intro _ _; exact rfl) | (intro _ hj; exact absurd hj (Nat.not_lt_zero _)) | exact Nat.le_refl _ | exact Or.inl (Or.inl (And.intro (fun h => h) rfl)) | apply And.intro)), rfl⟩
  · have hni : nadd 0 ((i : Nat) : Int).toNat = i := by simp [nadd_eq]
    conv => whnf
    refine dsplit (fun h1 => ?_) (fun h1 => ?_)
    · conv => whnf
      (repeat' (first | (refine And.intro (by (first | omega | assumption | (simp only [nadd_eq]; omega) | (simp [nadd_eq]; omega))) ?_; conv => whnf) | (refine arI64 (by omega) (by omega) ?_; conv => whnf) | (refine arU32 (by omega) (by omega) ?_; conv => whnf) | (refine arU8 (by omega) (by omega) ?_; conv => whnf)))
      rw [hni]
      obtain ⟨hi0, ha⟩ := hi
      have bad : jobOK b (T i) (J i) = false → okT b T J m = false := fun hf => by
        rw [Bool.eq_false_iff]
        intro hh
        simp only [okT, allB_iff] at hh
        rw [hh i (by omega)] at hf
        cases hf
      conv => whnf
      (refine drawP_intro (by rw [hP]; exact follows) (by kernel_rfl) ?_; conv => whnf)
      refine dsplit (fun h2 => ?_) (fun h2 => ?_)
      · have hf := bad (by unfold jobOK; rw [decide_eq_false_iff_not]; omega)
        rw [hf]
        conv => whnf
        (repeat (refine And.intro (by (conv => whnf); first | exact ⟨rfl, rfl, rfl⟩ | (refine And.intro (by omega) ?_; (conv => whnf); exact ⟨rfl, rfl, rfl⟩)) ?_; conv => whnf))
        conv => whnf
        (refine fin_auto ?_; conv => whnf); exact ⟨rfl, rfl, rfl, rfl, (by repeat' (first | exact trivial | exact rfl | (intro _ _; exact rfl) | (intro _ hj; exact absurd hj (Nat.not_lt_zero _)) | exact Nat.le_refl _ | exact Or.inl (Or.inl (And.intro (fun h => h) rfl)) | apply And.intro)), rfl⟩
      · conv => whnf
        refine dsplit (fun h3 => ?_) (fun h3 => ?_)
        · have hf := bad (by unfold jobOK; rw [decide_eq_false_iff_not]; omega)
          rw [hf]
          conv => whnf
          (repeat (refine And.intro (by (conv => whnf); first | exact ⟨rfl, rfl, rfl⟩ | (refine And.intro (by omega) ?_; (conv => whnf); exact ⟨rfl, rfl, rfl⟩)) ?_; conv => whnf))
          conv => whnf
          (refine fin_auto ?_; conv => whnf); exact ⟨rfl, rfl, rfl, rfl, (by repeat' (first | exact trivial | exact rfl | (intro _ _; exact rfl) | (intro _ hj; exact absurd hj (Nat.not_lt_zero _)) | exact Nat.le_refl _ | exact Or.inl (Or.inl (And.intro (fun h => h) rfl)) | apply And.intro)), rfl⟩
        · conv => whnf
          refine dsplit (fun h4 => ?_) (fun h4 => ?_)
          · have hf := bad (by unfold jobOK; rw [decide_eq_false_iff_not]; omega)
            rw [hf]
            conv => whnf
            (repeat (refine And.intro (by (conv => whnf); first | exact ⟨rfl, rfl, rfl⟩ | (refine And.intro (by omega) ?_; (conv => whnf); exact ⟨rfl, rfl, rfl⟩)) ?_; conv => whnf))
            conv => whnf
            (refine fin_auto ?_; conv => whnf); exact ⟨rfl, rfl, rfl, rfl, (by repeat' (first | exact trivial | exact rfl | (intro _ _; exact rfl) | (intro _ hj; exact absurd hj (Nat.not_lt_zero _)) | exact Nat.le_refl _ | exact Or.inl (Or.inl (And.intro (fun h => h) rfl)) | apply And.intro)), rfl⟩
          · obtain ⟨t, ht⟩ : ∃ t : Nat, T i = (t : Int) := ⟨(T i).toNat, by omega⟩
            obtain ⟨j, hj⟩ : ∃ j : Nat, J i = (j : Int) := ⟨(J i).toNat, by omega⟩
            have hnt : nadd 0 ((t : Nat) : Int).toNat = t := by simp [nadd_eq]
            have hnj : nadd 0 ((j : Nat) : Int).toNat = j := by simp [nadd_eq]
            rw [ht, hj]
            conv => whnf
            (repeat' (first | (refine And.intro (by (first | omega | assumption | (simp only [nadd_eq]; omega) | (simp [nadd_eq]; omega))) ?_; conv => whnf) | (refine arI64 (by omega) (by omega) ?_; conv => whnf) | (refine arU32 (by omega) (by omega) ?_; conv => whnf) | (refine arU8 (by omega) (by omega) ?_; conv => whnf)))
            rw [hnt]
            conv => whnf
            refine dsplit (fun h5 => ?_) (fun h5 => ?_)
            · have hf := bad (by unfold jobOK; rw [decide_eq_false_iff_not, ht, hj, Int.toNat_natCast]; omega)
              rw [hf]
              conv => whnf
              (refine fin_auto ?_; conv => whnf); exact ⟨rfl, rfl, rfl, rfl, (by repeat' (first | exact trivial | exact rfl | (intro _ _; exact rfl) | (intro _ hj; exact absurd hj (Nat.not_lt_zero _)) | exact Nat.le_refl _ | exact Or.inl (Or.inl (And.intro (fun h => h) rfl)) | apply And.intro)), rfl⟩
            · have hok : okT b T J (i + 1) = true := by
                simp only [okT, allB, Bool.and_eq_true]
                exact ⟨ha, by unfold jobOK; rw [decide_eq_true_iff, ht, hj, Int.toNat_natCast]; omega⟩
              have htl : t < b.n := by omega
              have hjl : j < b.nj t := by omega
              have hnd := hb3 t htl j hjl
              have hser : serC b T J c (i + 1) = (runC (b.d t j) (serC b T J c i) (b.nd t j)).1 := by
                simp only [serC, ht, hj, Int.toNat_natCast]
              obtain ⟨hf1, hf2⟩ := fineB_iff (hfine t htl j hjl)
              have hrun := run22_spec (b.d t j) (b.nd t j) (serC b T J c i) (b.nd t j) (b.nd t j) (by omega) (by omega) (by omega) hf2
              conv => whnf
              (refine drawP_intro (by rw [hP]; exact follows) (by kernel_rfl) ?_; conv => whnf)
              (repeat' (first | (refine And.intro (by (first | omega | assumption | (simp only [nadd_eq]; omega) | (simp [nadd_eq]; omega))) ?_; conv => whnf) | (refine arI64 (by omega) (by omega) ?_; conv => whnf) | (refine arU32 (by omega) (by omega) ?_; conv => whnf) | (refine arU8 (by omega) (by omega) ?_; conv => whnf)))
              rw [hnt]
              conv => whnf
              (repeat' (first | (refine And.intro (by (first | omega | assumption | (simp only [nadd_eq]; omega) | (simp [nadd_eq]; omega))) ?_; conv => whnf) | (refine arI64 (by omega) (by omega) ?_; conv => whnf) | (refine arU32 (by omega) (by omega) ?_; conv => whnf) | (refine arU8 (by omega) (by omega) ?_; conv => whnf)))
              rw [hnj]
              conv => whnf
              (repeat' (first | (refine And.intro (by (first | omega | assumption | (simp only [nadd_eq]; omega) | (simp [nadd_eq]; omega))) ?_; conv => whnf) | (refine arI64 (by omega) (by omega) ?_; conv => whnf) | (refine arU32 (by omega) (by omega) ?_; conv => whnf) | (refine arU8 (by omega) (by omega) ?_; conv => whnf)))
              (repeat (refine And.intro (by (conv => whnf); first | exact ⟨rfl, rfl, rfl⟩ | (refine And.intro (by omega) ?_; (conv => whnf); exact ⟨rfl, rfl, rfl⟩)) ?_; conv => whnf))
              conv => whnf
              refine call_flat_at 1 (fun l => ddE (b.d t j) l) rfl rfl rfl ?_ ?_ ?_
              · exact Nat.le_of_eq (Nat.zero_add _)
              · intro l hl
                refine ⟨rfl, fun cc hcc => ?_⟩
                rw [Nat.zero_add]
                rcases (show cc = 0 ∨ cc = 1 ∨ cc = 2 from by omega) with rfl | rfl | rfl
                · exact ⟨_, rfl, rfl⟩
                · exact ⟨_, rfl, rfl⟩
                · exact ⟨_, rfl, rfl⟩
              conv => whnf
              (refine call_auto hP (hrun) ?_; conv => whnf); (refine ⟨⟨rfl, rfl, rfl, (by repeat' (first | exact trivial | exact rfl | (intro _ _; exact rfl) | (intro _ hj; exact absurd hj (Nat.not_lt_zero _)) | exact Nat.le_refl _ | exact Or.inl (Or.inl (And.intro (fun h => h) rfl)) | apply And.intro)), rfl, rfl⟩, ?_⟩; conv => whnf)
              conv => whnf
              (repeat' (first | (refine And.intro (by (first | omega | assumption | (simp only [nadd_eq]; omega) | (simp [nadd_eq]; omega))) ?_; conv => whnf) | (refine arI64 (by omega) (by omega) ?_; conv => whnf) | (refine arU32 (by omega) (by omega) ?_; conv => whnf) | (refine arU8 (by omega) (by omega) ?_; conv => whnf)))
              refine ⟨i + 1, ⟨by omega, hok⟩, by omega, ?_⟩
              rw [hser]
              (conv => whnf); (refine imp_auto hA ?_; conv => whnf); exact ⟨rfl, rfl, rfl, (by repeat' (first | exact trivial | exact rfl | apply And.intro)), (by repeat' (first | exact trivial | exact rfl | (intro _ _; exact rfl) | (intro _ hj; exact absurd hj (Nat.not_lt_zero _)) | exact Nat.le_refl _ | exact Or.inl (Or.inl (And.intro (fun h => h) rfl)) | apply And.intro)), rfl⟩
    · obtain ⟨hi, ha⟩ := hi
      obtain rfl : i = m := by omega
      rw [ha]
      conv => whnf
      (refine fin_auto ?_; conv => whnf); exact ⟨rfl, rfl, rfl, rfl, (by repeat' (first | exact trivial | exact rfl | (intro _ _; exact rfl) | (intro _ hj; exact absurd hj (Nat.not_lt_zero _)) | exact Nat.le_refl _ | exact Or.inl (Or.inl (And.intro (fun h => h) rfl)) | apply And.intro)), rfl⟩
end Go.Proofs.Ytfkhaicghoiijab
