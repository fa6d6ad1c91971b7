/- SerialJoins: the walk. -/
import Derived.Test.YtfkhaicghoiijabSx1
set_option linter.unusedSimpArgs false
set_option linter.unusedVariables false
namespace Go.Proofs.Ytfkhaicghoiijab
open Go Go.Sx

theorem allB_add (p : Nat → Bool) (k : Nat) : ∀ n, allB p (k + n) = (allB p k && allB (fun i => p (k + i)) n)
  | 0 => by simp [allB]
  | n + 1 => by
    show (allB p (k + n) && p (k + n)) = _
    rw [allB_add p k n]
    simp only [allB, Bool.and_assoc]
theorem serC_add (b : Jb) (T J : Nat → Int) (c : Nat → Int) (k : Nat) : ∀ n, serC b T J c (k + n) = serC b (fun i => T (k + i)) (fun i => J (k + i)) (serC b T J c k) n
  | 0 => rfl
  | n + 1 => by
    show (runC _ (serC b T J c (k + n)) _).1 = _
    rw [serC_add b T J c k n]
    rfl
def serR (b : Jb) (T J : Nat → Int) (c : Nat → Int) (m : Nat) : Nat → Int := if okT b T J m = true then serC b T J c m else c
def serE (b : Jb) (T J : Nat → Int) (m : Nat) : Int := if okT b T J m = true then 0 else 1
theorem joins_law (b : Jb) (T J : Nat → Int) (c : Nat → Int) (m k : Nat) (hk : k ≤ m) :
    (serE b T J k = 0 → serE b (fun i => T (k + i)) (fun i => J (k + i)) (m - k) = 0 → serE b T J m = 0 ∧ serR b T J c m = serR b (fun i => T (k + i)) (fun i => J (k + i)) (serR b T J c k) (m - k)) ∧
    (serE b T J k ≠ 0 ∨ serE b (fun i => T (k + i)) (fun i => J (k + i)) (m - k) ≠ 0 → serE b T J m = 1 ∧ serR b T J c m = c) := by
  have e1 : okT b T J m = (okT b T J k && okT b (fun i => T (k + i)) (fun i => J (k + i)) (m - k)) := by
    have := allB_add (fun i => jobOK b (T i) (J i)) k (m - k)
    rw [show k + (m - k) = m by omega] at this
    exact this
  have e2 := serC_add b T J c k (m - k)
  rw [show k + (m - k) = m by omega] at e2
  unfold serE serR
  rw [e1]
  cases h1 : okT b T J k <;> cases h2 : okT b (fun i => T (k + i)) (fun i => J (k + i)) (m - k) <;> simp [e2]
theorem serial_spec' (b : Jb) (hb : b.small) (T J : Nat → Int) (m : Nat) (c : Nat → Int) (hm : m ≤ 5864062014634) :
    FSpec Try.prog 12 [(0, some (.dp false (jobsD b))), (1, some (.ro 2 m (ranE T J)))] 2 [.a (cellsC c), .l (.fs 0 [] 1 0 b.n 0), .l (.s 1 2 0 m 0)] fun x h n =>
      x = .t [.a (cellsC (serR b T J c m)), .l (.v (.int .i64 (serE b T J m)))] ∧ n = 2 ∧ h = [] := serial_spec b hb T J m c hm
set_option maxHeartbeats 8000000 in
set_option maxRecDepth 8000 in
theorem sjoins_spec (b : Jb) (hb : b.small) (T J : Nat → Int) (m : Nat) (c : Nat → Int) (q : Int) (hq0 : 0 ≤ q) (hq1 : q ≤ 255) (hm : m ≤ maxLen) :
    FSpec Try.prog 3 [(0, some (.dp false (jobsD b))), (1, some (.ro 2 m (ranE T J)))] 2 [.a (cellsC c ++ [.fs 0 [] 1 0 b.n 0, .s 1 2 0 m 0, .v (.int .u8 q)])] fun x h n => x = sBool true := by
  refine FSpec.mono (Q := fun x h k => x = sBool true ∧ k = 2 ∧ h = []) ?_ fun x h k hx => hx.1
  unfold maxLen at hm
  have hsm := small_spec b hb
  have haw := awake_spec
  obtain ⟨hb1, hb2, hb3⟩ := id hb
  refine spec_of_ev Try.func3 ic3_eq (rs := [.t 2]) (by kernel_rfl) (by kernel_rfl) (by kernel_rfl) fun G hP hA => ?_
  unfold evF ic3
  conv => whnf
  (refine drawP_intro (by rw [hP]; exact follows) (by kernel_rfl) ?_; conv => whnf)
  (repeat (refine And.intro (by (conv => whnf); first | exact ⟨rfl, rfl, rfl⟩ | (refine And.intro (by omega) ?_; (conv => whnf); exact ⟨rfl, rfl, rfl⟩)) ?_; conv => whnf))
  refine dsplit (fun h1 => ?_) (fun h1 => ?_)
  · conv => whnf
    (refine call_auto hP (haw) ?_; conv => whnf); (refine ⟨⟨rfl, rfl, rfl, (by repeat' (first | exact trivial | exact rfl | (intro _ _; exact rfl) | (intro _ hj; exact absurd hj (Nat.not_lt_zero _)) | exact Nat.le_refl _ | exact Or.inl (Or.inl (And.intro (fun h => h) rfl)) | apply And.intro)), rfl, rfl⟩, ?_⟩; conv => whnf)
    (refine fin_auto ?_; conv => whnf); exact ⟨rfl, rfl, rfl, rfl, (by repeat' (first | exact trivial | exact rfl | (intro _ _; exact rfl) | (intro _ hj; exact absurd hj (Nat.not_lt_zero _)) | exact Nat.le_refl _ | exact Or.inl (Or.inl (And.intro (fun h => h) rfl)) | apply And.intro)), rfl⟩
  · conv => whnf
    (refine call_auto hP (hsm) ?_; conv => whnf); (refine ⟨⟨rfl, rfl, rfl, (by repeat' (first | exact trivial | exact rfl | (intro _ _; exact rfl) | (intro _ hj; exact absurd hj (Nat.not_lt_zero _)) | exact Nat.le_refl _ | exact Or.inl (Or.inl (And.intro (fun h => h) rfl)) | apply And.intro)), rfl, rfl⟩, ?_⟩; conv => whnf)
    refine nbsplit (fun h2 => ?_) (fun h2 => ?_)
    · conv => whnf
      (refine call_auto hP (haw) ?_; conv => whnf); (refine ⟨⟨rfl, rfl, rfl, (by repeat' (first | exact trivial | exact rfl | (intro _ _; exact rfl) | (intro _ hj; exact absurd hj (Nat.not_lt_zero _)) | exact Nat.le_refl _ | exact Or.inl (Or.inl (And.intro (fun h => h) rfl)) | apply And.intro)), rfl, rfl⟩, ?_⟩; conv => whnf)
      (refine fin_auto ?_; conv => whnf); exact ⟨rfl, rfl, rfl, rfl, (by repeat' (first | exact trivial | exact rfl | (intro _ _; exact rfl) | (intro _ hj; exact absurd hj (Nat.not_lt_zero _)) | exact Nat.le_refl _ | exact Or.inl (Or.inl (And.intro (fun h => h) rfl)) | apply And.intro)), rfl⟩
    · conv => whnf
      refine loop_auto (α := Nat) (ds := []) (N := 4) (fun t => [(38, sInt .i64 (t : Int))]) [] (fun _ => []) (fun t => t ≤ b.n) (fun t => b.n - t) 0 (Nat.zero_le _) ?_ fun t ht => ?_
      · (conv => whnf); (refine imp_auto hA ?_; conv => whnf); exact ⟨rfl, rfl, rfl, (by repeat' (first | exact trivial | exact rfl | apply And.intro)), (by repeat' (first | exact trivial | exact rfl | (intro _ _; exact rfl) | (intro _ hj; exact absurd hj (Nat.not_lt_zero _)) | exact Nat.le_refl _ | exact Or.inl (Or.inl (And.intro (fun h => h) rfl)) | apply And.intro)), rfl⟩
      · conv => whnf
        refine dsplit (fun h3 => ?_) (fun h3 => ?_)
        · have htn : t < b.n := by omega
          have hnj := hb2 t htn
          conv => whnf
          (repeat' (first | (refine And.intro (by (first | omega | assumption | (simp only [nadd_eq]; omega) | (simp [nadd_eq]; omega))) ?_; conv => whnf) | (refine arI64 (by omega) (by omega) ?_; conv => whnf) | (refine arU32 (by omega) (by omega) ?_; conv => whnf) | (refine arU8 (by omega) (by omega) ?_; conv => whnf)))
          refine loop_auto (α := Nat) (ds := []) (N := 4) (fun j => [(44, sInt .i64 (j : Int))]) [] (fun _ => []) (fun j => j ≤ b.nj t) (fun j => b.nj t - j) 0 (Nat.zero_le _) ?_ fun j hj => ?_
          · (conv => whnf); (refine imp_auto hA ?_; conv => whnf); exact ⟨rfl, rfl, rfl, (by repeat' (first | exact trivial | exact rfl | apply And.intro)), (by repeat' (first | exact trivial | exact rfl | (intro _ _; exact rfl) | (intro _ hj; exact absurd hj (Nat.not_lt_zero _)) | exact Nat.le_refl _ | exact Or.inl (Or.inl (And.intro (fun h => h) rfl)) | apply And.intro)), rfl⟩
          · conv => whnf
            refine dsplit (fun h4 => ?_) (fun h4 => ?_)
            · replace h4 : (j : Int) < (b.nj t : Int) := h4
              have hjn : j < b.nj t := by omega
              have hfi := fine_spec (b.d t j) (b.nd t j) (hb3 t htn j hjn)
              conv => whnf
              (repeat' (first | (refine And.intro (by (first | omega | assumption | (simp only [nadd_eq]; omega) | (simp [nadd_eq]; omega))) ?_; conv => whnf) | (refine arI64 (by omega) (by omega) ?_; conv => whnf) | (refine arU32 (by omega) (by omega) ?_; conv => whnf) | (refine arU8 (by omega) (by omega) ?_; conv => whnf)))
              refine call_flat_at 0 (fun l => ddE (b.d t j) l) rfl rfl rfl ?_ ?_ ?_
              · exact Nat.le_of_eq (Nat.zero_add _)
              · intro l hl
                refine ⟨rfl, fun cc hcc => ?_⟩
                rw [Nat.zero_add]
                rcases (show cc = 0 ∨ cc = 1 ∨ cc = 2 from by omega) with rfl | rfl | rfl
                · exact ⟨_, rfl, rfl⟩
                · exact ⟨_, rfl, rfl⟩
                · exact ⟨_, rfl, rfl⟩
              conv => whnf
              (refine call_auto hP (hfi) ?_; conv => whnf); (refine ⟨⟨rfl, rfl, rfl, (by repeat' (first | exact trivial | exact rfl | (intro _ _; exact rfl) | (intro _ hj; exact absurd hj (Nat.not_lt_zero _)) | exact Nat.le_refl _ | exact Or.inl (Or.inl (And.intro (fun h => h) rfl)) | apply And.intro)), rfl, rfl⟩, ?_⟩; conv => whnf)
              refine nbsplit (fun h5 => ?_) (fun h5 => ?_)
              · conv => whnf
                (refine call_auto hP (haw) ?_; conv => whnf); (refine ⟨⟨rfl, rfl, rfl, (by repeat' (first | exact trivial | exact rfl | (intro _ _; exact rfl) | (intro _ hj; exact absurd hj (Nat.not_lt_zero _)) | exact Nat.le_refl _ | exact Or.inl (Or.inl (And.intro (fun h => h) rfl)) | apply And.intro)), rfl, rfl⟩, ?_⟩; conv => whnf)
                (refine fin_auto ?_; conv => whnf); exact ⟨rfl, rfl, rfl, rfl, (by repeat' (first | exact trivial | exact rfl | (intro _ _; exact rfl) | (intro _ hj; exact absurd hj (Nat.not_lt_zero _)) | exact Nat.le_refl _ | exact Or.inl (Or.inl (And.intro (fun h => h) rfl)) | apply And.intro)), rfl⟩
              · conv => whnf
                (repeat' (first | (refine And.intro (by (first | omega | assumption | (simp only [nadd_eq]; omega) | (simp [nadd_eq]; omega))) ?_; conv => whnf) | (refine arI64 (by omega) (by omega) ?_; conv => whnf) | (refine arU32 (by omega) (by omega) ?_; conv => whnf) | (refine arU8 (by omega) (by omega) ?_; conv => whnf)))
                refine ⟨j + 1, by omega, by omega, ?_⟩
                (conv => whnf); (refine imp_auto hA ?_; conv => whnf); exact ⟨rfl, rfl, rfl, (by repeat' (first | exact trivial | exact rfl | apply And.intro)), (by repeat' (first | exact trivial | exact rfl | (intro _ _; exact rfl) | (intro _ hj; exact absurd hj (Nat.not_lt_zero _)) | exact Nat.le_refl _ | exact Or.inl (Or.inl (And.intro (fun h => h) rfl)) | apply And.intro)), rfl⟩
            · conv => whnf
              (repeat' (first | (refine And.intro (by (first | omega | assumption | (simp only [nadd_eq]; omega) | (simp [nadd_eq]; omega))) ?_; conv => whnf) | (refine arI64 (by omega) (by omega) ?_; conv => whnf) | (refine arU32 (by omega) (by omega) ?_; conv => whnf) | (refine arU8 (by omega) (by omega) ?_; conv => whnf)))
              refine ⟨t + 1, by omega, by omega, ?_⟩
              (conv => whnf); (refine imp_auto hA ?_; conv => whnf); exact ⟨rfl, rfl, rfl, (by repeat' (first | exact trivial | exact rfl | apply And.intro)), (by repeat' (first | exact trivial | exact rfl | (intro _ _; exact rfl) | (intro _ hj; exact absurd hj (Nat.not_lt_zero _)) | exact Nat.le_refl _ | exact Or.inl (Or.inl (And.intro (fun h => h) rfl)) | apply And.intro)), rfl⟩
        · conv => whnf
          (repeat' (first | (refine And.intro (by (first | omega | assumption | (simp only [nadd_eq]; omega) | (simp [nadd_eq]; omega))) ?_; conv => whnf) | (refine arI64 (by omega) (by omega) ?_; conv => whnf) | (refine arU32 (by omega) (by omega) ?_; conv => whnf) | (refine arU8 (by omega) (by omega) ?_; conv => whnf)))
          obtain ⟨k, hk, hkm⟩ : ∃ k : Nat, q % ((m : Int) + 1) = (k : Int) ∧ k ≤ m := by
            have h6 := Int.emod_nonneg q (show ((m : Int) + 1) ≠ 0 by omega)
            have h7 := Int.emod_lt_of_pos q (show 0 < (m : Int) + 1 by omega)
            exact ⟨(q % ((m : Int) + 1)).toNat, by omega, by omega⟩
          refine remI hq0 (by omega) ?_
          rw [hk]
          have hs1 := serial_spec' b hb T J m c (by omega)
          have hs2 := serial_spec' b hb T J k c (by omega)
          have hs3 := serial_spec' b hb (fun i => T (k + i)) (fun i => J (k + i)) (m - k) (serR b T J c k) (by omega)
          obtain ⟨hl1, hl2⟩ := joins_law b T J c m k hkm
          generalize serR b T J c m = r1 at *
          generalize serE b T J m = e1 at *
          generalize serR b T J c k = r2 at *
          generalize serE b T J k = e2 at *
          generalize serR b (fun i => T (k + i)) (fun i => J (k + i)) r2 (m - k) = r3 at *
          generalize serE b (fun i => T (k + i)) (fun i => J (k + i)) (m - k) = e3 at *
          conv => whnf
          (refine call_auto hP (hs1) ?_; conv => whnf); (refine ⟨⟨rfl, rfl, rfl, (by repeat' (first | exact trivial | exact rfl | (intro _ _; exact rfl) | (intro _ hj; exact absurd hj (Nat.not_lt_zero _)) | exact Nat.le_refl _ | exact Or.inl (Or.inl (And.intro (fun h => h) rfl)) | apply And.intro)), rfl, rfl⟩, ?_⟩; conv => whnf)
          (refine drawP_intro (by rw [hP]; exact follows) (by kernel_rfl) ?_; conv => whnf)
          (repeat' (first | (refine And.intro (by (first | omega | assumption | (simp only [nadd_eq]; omega) | (simp [nadd_eq]; omega))) ?_; conv => whnf) | (refine arI64 (by omega) (by omega) ?_; conv => whnf) | (refine arU32 (by omega) (by omega) ?_; conv => whnf) | (refine arU8 (by omega) (by omega) ?_; conv => whnf)))
          (refine callD_auto hP (hs2) ?_; conv => whnf); refine ⟨⟨rfl, rfl, rfl, ?_, rfl, rfl⟩, ?_⟩
          · exact ⟨.inr ⟨rfl, DvEqB.refl _⟩, ⟨rfl, hkm, fun i hi => rfl⟩, trivial⟩
          conv => whnf
          (repeat (refine And.intro (by (conv => whnf); first | exact ⟨rfl, rfl, rfl⟩ | (refine And.intro (by omega) ?_; (conv => whnf); exact ⟨rfl, rfl, rfl⟩)) ?_; conv => whnf))
          (refine drawP_intro (by rw [hP]; exact follows) (by kernel_rfl) ?_; conv => whnf)
          (repeat' (first | (refine And.intro (by (first | omega | assumption | (simp only [nadd_eq]; omega) | (simp [nadd_eq]; omega))) ?_; conv => whnf) | (refine arI64 (by omega) (by omega) ?_; conv => whnf) | (refine arU32 (by omega) (by omega) ?_; conv => whnf) | (refine arU8 (by omega) (by omega) ?_; conv => whnf)))
          refine callD_sub_at 2 rfl rfl ?_ ?_
          · show nadd 0 (k : Int).toNat + (m - (k : Int).toNat) ≤ m
            simp only [nadd_eq]; omega
          conv => whnf
          (refine callD_auto hP (hs3) ?_; conv => whnf); refine ⟨⟨rfl, rfl, rfl, ?_, rfl, rfl⟩, ?_⟩
          · refine ⟨.inr ⟨rfl, DvEqB.refl _⟩, ⟨rfl, Nat.le_refl _, fun i hi => rfl⟩, trivial⟩
          conv => whnf
          (repeat (refine And.intro (by (conv => whnf); first | exact ⟨rfl, rfl, rfl⟩ | (refine And.intro (by omega) ?_; (conv => whnf); exact ⟨rfl, rfl, rfl⟩)) ?_; conv => whnf))
          refine dsplit (fun h6 => ?_) (fun h6 => ?_)
          · obtain ⟨g1, g2⟩ := hl2 (.inl h6)
            subst g1 g2
            conv => whnf
            refine bsplit (fun h9 => ?_) (fun h9 => absurd h9 (by simp [xb]))
            rw [h9]
            conv => whnf
            (refine call_auto hP (haw) ?_; conv => whnf); (refine ⟨⟨rfl, rfl, rfl, (by repeat' (first | exact trivial | exact rfl | (intro _ _; exact rfl) | (intro _ hj; exact absurd hj (Nat.not_lt_zero _)) | exact Nat.le_refl _ | exact Or.inl (Or.inl (And.intro (fun h => h) rfl)) | apply And.intro)), rfl, rfl⟩, ?_⟩; conv => whnf)
            (refine fin_auto ?_; conv => whnf); refine ⟨rfl, rfl, rfl, bool_fin ?_, (by repeat' (first | exact trivial | exact rfl | (intro _ _; exact rfl) | (intro _ hj; exact absurd hj (Nat.not_lt_zero _)) | exact Nat.le_refl _ | exact Or.inl (Or.inl (And.intro (fun h => h) rfl)) | apply And.intro)), rfl⟩
            rfl
          · conv => whnf
            refine dsplit (fun h7 => ?_) (fun h7 => ?_)
            · obtain ⟨g1, g2⟩ := hl2 (.inr h7)
              subst g1 g2
              conv => whnf
              refine bsplit (fun h9 => ?_) (fun h9 => absurd h9 (by simp [xb]))
              rw [h9]
              conv => whnf
              (refine call_auto hP (haw) ?_; conv => whnf); (refine ⟨⟨rfl, rfl, rfl, (by repeat' (first | exact trivial | exact rfl | (intro _ _; exact rfl) | (intro _ hj; exact absurd hj (Nat.not_lt_zero _)) | exact Nat.le_refl _ | exact Or.inl (Or.inl (And.intro (fun h => h) rfl)) | apply And.intro)), rfl, rfl⟩, ?_⟩; conv => whnf)
              (refine fin_auto ?_; conv => whnf); refine ⟨rfl, rfl, rfl, bool_fin ?_, (by repeat' (first | exact trivial | exact rfl | (intro _ _; exact rfl) | (intro _ hj; exact absurd hj (Nat.not_lt_zero _)) | exact Nat.le_refl _ | exact Or.inl (Or.inl (And.intro (fun h => h) rfl)) | apply And.intro)), rfl⟩
              rfl
            · obtain ⟨g1, g2⟩ := hl1 (by omega) (by omega)
              subst g1 g2
              conv => whnf
              refine bsplit (fun h9 => ?_) (fun h9 => absurd h9 (by simp [xb]))
              rw [h9]
              conv => whnf
              (refine call_auto hP (haw) ?_; conv => whnf); (refine ⟨⟨rfl, rfl, rfl, (by repeat' (first | exact trivial | exact rfl | (intro _ _; exact rfl) | (intro _ hj; exact absurd hj (Nat.not_lt_zero _)) | exact Nat.le_refl _ | exact Or.inl (Or.inl (And.intro (fun h => h) rfl)) | apply And.intro)), rfl, rfl⟩, ?_⟩; conv => whnf)
              (refine fin_auto ?_; conv => whnf); refine ⟨rfl, rfl, rfl, bool_fin ?_, (by repeat' (first | exact trivial | exact rfl | (intro _ _; exact rfl) | (intro _ hj; exact absurd hj (Nat.not_lt_zero _)) | exact Nat.le_refl _ | exact Or.inl (Or.inl (And.intro (fun h => h) rfl)) | apply And.intro)), rfl⟩
              rfl
end Go.Proofs.Ytfkhaicghoiijab
