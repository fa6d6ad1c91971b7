/- AheadTurns: the law's function. -/
import Derived.Test.YtfkhaicghoiijacBe
set_option linter.unusedSimpArgs false
set_option linter.unusedVariables false
namespace Go.Proofs.Ytfkhaicghoiijac
open Go Go.Sx

theorem join_rows (A B : List Int) : ∀ j, j < (A ++ B).length → (if j < A.length then intsZ A j else intsZ B (j - A.length)) = intsZ (A ++ B) j := fun j hj => by
  unfold intsZ
  by_cases h : j < A.length
  · rw [if_pos h]; simp [List.getElem?_append_left h]
  · rw [if_neg h]; simp [List.getElem?_append_right (Nat.le_of_not_lt h)]
set_option maxRecDepth 8000 in
set_option maxHeartbeats 4000000 in
theorem aturns_spec (k t : Nat → Int) (a : Nat → Int) (b : Nat → Bool) (m : Nat) (hm : m ≤ maxLen) (ht : ∀ i, i < m → inI (t i)) :
    FSpec Try.prog 5 [(0, some (.ro 4 m (entE k t a b)))] 1 [.l (.s 0 4 0 m 0)] fun x h n => x = sBool true := by
  unfold maxLen at hm
  refine FSpec.mono (Q := fun x h k => x = sBool true ∧ k = 1 ∧ h = []) ?_ fun x h k hx => hx.1
  refine spec_of_ev Try.func5 ic5_eq (rs := [.t 2]) (by kernel_rfl) (by kernel_rfl) (by kernel_rfl) fun G hP hA => ?_
  unfold evF ic5
  conv => whnf
  refine dsplit (fun h1 => ?_) (fun h1 => ?_)
  · conv => whnf
    (refine call_auto hP (awake_spec) ?_; conv => whnf); (refine ⟨⟨rfl, rfl, rfl, (by repeat' (first | exact trivial | exact rfl | (intro _ _; exact rfl) | (intro _ hj; exact absurd hj (Nat.not_lt_zero _)) | exact Nat.le_refl _ | exact Or.inl (And.intro (fun h => h) rfl) | apply And.intro)), rfl, rfl⟩, ?_⟩; conv => whnf)
    (refine fin_auto ?_; conv => whnf); exact ⟨rfl, rfl, rfl, rfl, (by repeat' (first | exact trivial | exact rfl | (intro _ _; exact rfl) | (intro _ hj; exact absurd hj (Nat.not_lt_zero _)) | exact Nat.le_refl _ | exact Or.inl (And.intro (fun h => h) rfl) | apply And.intro)), rfl⟩
  · have hin0 := inq_spec k t a b m 0 0 (by omega) (by omega) ht
    have hq0 : quN k t 0 = [] := rfl
    rw [hq0] at hin0
    conv => whnf
    (refine call_auto hP (hin0) ?_; conv => whnf); (refine ⟨⟨rfl, rfl, rfl, (by repeat' (first | exact trivial | exact rfl | (intro _ _; exact rfl) | (intro _ hj; exact absurd hj (Nat.not_lt_zero _)) | exact Nat.le_refl _ | exact Or.inl (And.intro (fun h => h) rfl) | apply And.intro)), rfl, rfl⟩, ?_⟩; conv => whnf)
    refine loop_auto (α := Nat) (ds := [21, 22]) (N := 2) (fun i => [(3, .o (.l (.s 1 1 0 (quN k t i).length 0))), (4, sInt .i64 (mostN k t i : Int)), (27, sInt .i64 (i : Int))]) [] (fun i => [(1, some (.ar 1 (quN k t i).length (intsZ (quN k t i))))])
      (fun i => i ≤ m) (fun i => m - i) 0 (Nat.zero_le _) ?_ fun i hi => ?_
    · (conv => whnf); (refine imp_auto hA ?_; conv => whnf); exact ⟨rfl, rfl, rfl, (by repeat' (first | exact trivial | exact rfl | apply And.intro)), (by repeat' (first | exact trivial | exact rfl | (intro _ _; exact rfl) | (intro _ hj; exact absurd hj (Nat.not_lt_zero _)) | exact Nat.le_refl _ | exact Or.inl (And.intro (fun h => h) rfl) | apply And.intro)), rfl⟩
    · have hmo := mostN_le k t i
      have hl0 := quN_len k t i
      have hl1 := quN_len k t (i + 1)
      have hmx : (mostN k t (i + 1) : Int) = max (mostN k t i : Int) ((quN k t (i + 1)).length : Int) := by simp only [mostN]; omega
      conv => whnf
      refine dsplit (fun h3 => ?_) (fun h3 => ?_)
      · have hin := inq_spec k t a b m ((i : Int) + 1) (i + 1) (by omega) (by omega) ht
        have hs0 := qu_sorted k t i
        have hs1 := qu_sorted k t (i + 1)
        have hoth := qu_other k t i
        generalize hA' : quN k t i = A at *
        generalize hB' : quN k t (i + 1) = B at *
        have hxl : (A ++ B).length = A.length + B.length := by simp
        conv => whnf
        (repeat' (first | (refine And.intro (by (first | omega | assumption | (simp only [nadd_eq]; omega) | (simp [nadd_eq]; omega))) ?_; conv => whnf) | (refine arI64 (by omega) (by omega) ?_; conv => whnf) | (refine arU32 (by omega) (by omega) ?_; conv => whnf) | (refine arU8 (by omega) (by omega) ?_; conv => whnf)))
        (refine call_auto hP (hin) ?_; conv => whnf); (refine ⟨⟨rfl, rfl, rfl, (by repeat' (first | exact trivial | exact rfl | (intro _ _; exact rfl) | (intro _ hj; exact absurd hj (Nat.not_lt_zero _)) | exact Nat.le_refl _ | exact Or.inl (And.intro (fun h => h) rfl) | apply And.intro)), rfl, rfl⟩, ?_⟩; conv => whnf)
        (repeat' (first | (refine And.intro (by (first | omega | assumption | (simp only [nadd_eq]; omega) | (simp [nadd_eq]; omega))) ?_; conv => whnf) | (refine arI64 (by omega) (by omega) ?_; conv => whnf) | (refine arU32 (by omega) (by omega) ?_; conv => whnf) | (refine arU8 (by omega) (by omega) ?_; conv => whnf)))
        refine loop_auto (α := Nat) (ds := []) (N := 6) (fun v => [(7, sInt .i64 (dN A B v : Int)), (38, .o (.l (.s 5 1 0 (A ++ B).length 0))), (40, sInt .i64 (v : Int))]) [] (fun _ => [(5, some (.ar 1 (A ++ B).length (intsZ (A ++ B))))])
          (fun v => v ≤ (A ++ B).length) (fun v => (A ++ B).length - v) 0 (Nat.zero_le _) ?_ fun v hv => ?_
        · rw [show (A ++ B).length = 0 + A.length + B.length by omega]
          (conv => whnf); (refine imp_auto hA ?_; conv => whnf); refine ⟨rfl, rfl, rfl, (by repeat' (first | exact trivial | exact rfl | apply And.intro)), ?_, rfl⟩
          refine And.intro (And.intro rfl (And.intro rfl fun j hj => ?_)) (by repeat' (first | exact trivial | exact rfl | (intro _ _; exact rfl) | (intro _ hj; exact absurd hj (Nat.not_lt_zero _)) | exact Nat.le_refl _ | exact Or.inl (And.intro (fun h => h) rfl) | apply And.intro))
          show (if j < 0 + A.length then (if j < 0 then rowsOf 1 0 [] j else intsZ A (nadd 0 (j - 0))) else intsZ B (nadd 0 (j - (0 + A.length)))) = _
          rw [Nat.zero_add, if_neg (Nat.not_lt_zero j)]
          exact join_rows A B j (by omega)
        · obtain ⟨c, hcd⟩ : ∃ c, c = (A ++ B).getD v 0 := ⟨_, rfl⟩
          have hca := cN_len A c
          have hcb := cN_len B c
          have hoa : cN A c A.length ≤ 1 := by rw [hca]; exact count_one hs0 c
          have hob : cN B c B.length ≤ 1 := by rw [hcb]; exact count_one hs1 c
          have hdl := dN_le A B v
          have hn1 : ¬ (1 : Int) < ((cN A c A.length : Nat) : Int) := Int.not_lt.2 (Int.ofNat_le.2 hoa)
          have hn2 : ¬ (1 : Int) < ((cN B c B.length : Nat) : Int) := Int.not_lt.2 (Int.ofNat_le.2 hob)
          have hdn : dN A B (v + 1) = if A.count c ≠ B.count c then dN A B v + 1 else dN A B v := by rw [hcd]; rfl
          have hyes : ((cN A c A.length : Nat) : Int) ≠ ((cN B c B.length : Nat) : Int) → c = t i ∧ dN A B (v + 1) = dN A B v + 1 := fun h => by
            rw [hca, hcb] at h
            have h2 : A.count c ≠ B.count c := fun e => h (by rw [e])
            exact ⟨Decidable.byContradiction fun hc => h2 (hoth c hc), by rw [hdn, if_pos h2]⟩
          have hno : ¬ ((cN A c A.length : Nat) : Int) ≠ ((cN B c B.length : Nat) : Int) → dN A B (v + 1) = dN A B v := fun h => by
            rw [hca, hcb] at h
            rw [hdn, if_neg fun h2 => h fun e => h2 (Int.ofNat.inj e)]
          have hv1 : (v : Int) < ((0 + A.length + B.length : Nat) : Int) → v + 1 ≤ (A ++ B).length := fun h => by clear hdn hyes hno hca hcb; omega
          have hv2 : (v : Int) < ((0 + A.length + B.length : Nat) : Int) → (A ++ B).length - (v + 1) < (A ++ B).length - v := fun h => by clear hdn hyes hno hca hcb; omega
          clear hdn
          conv => whnf
          refine dsplit (fun h4 => ?_) (fun h4 => ?_)
          · conv => whnf
            (refine join_plain ?_; conv => whnf)
            (repeat' (first | (refine And.intro (by (first | omega | assumption | (simp only [nadd_eq]; omega) | (simp [nadd_eq]; omega))) ?_; conv => whnf) | (refine arI64 (by omega) (by omega) ?_; conv => whnf) | (refine arU32 (by omega) (by omega) ?_; conv => whnf) | (refine arU8 (by omega) (by omega) ?_; conv => whnf)))
            refine loop_auto (α := Nat) (ds := []) (N := 6) (fun u => [(10, sInt .i64 (cN A c u : Int)), (46, sInt .i64 (u : Int))]) [] (fun _ => [])
              (fun u => u ≤ A.length) (fun u => A.length - u) 0 (Nat.zero_le _) ?_ fun u hu => ?_
            · (conv => whnf); (refine imp_auto hA ?_; conv => whnf); exact ⟨rfl, rfl, rfl, (by repeat' (first | exact trivial | exact rfl | apply And.intro)), (by repeat' (first | exact trivial | exact rfl | (intro _ _; exact rfl) | (intro _ hj; exact absurd hj (Nat.not_lt_zero _)) | exact Nat.le_refl _ | exact Or.inl (And.intro (fun h => h) rfl) | apply And.intro)), rfl⟩
            · have hcl := cN_le A c u
              conv => whnf
              refine dsplit (fun h5 => ?_) (fun h5 => ?_)
              · conv => whnf
                (refine join_plain ?_; conv => whnf)
                (repeat' (first | (refine And.intro (by (first | omega | assumption | (simp only [nadd_eq]; omega) | (simp [nadd_eq]; omega))) ?_; conv => whnf) | (refine arI64 (by omega) (by omega) ?_; conv => whnf) | (refine arU32 (by omega) (by omega) ?_; conv => whnf) | (refine arU8 (by omega) (by omega) ?_; conv => whnf)))
                refine dsplit (fun h6 => ?_) (fun h6 => ?_)
                · have h7 : A.getD u 0 = c := h6.trans hcd.symm
                  have hcu : cN A c (u + 1) = cN A c u + 1 := by simp only [cN, if_pos h7]
                  conv => whnf
                  (repeat' (first | (refine And.intro (by (first | omega | assumption | (simp only [nadd_eq]; omega) | (simp [nadd_eq]; omega))) ?_; conv => whnf) | (refine arI64 (by omega) (by omega) ?_; conv => whnf) | (refine arU32 (by omega) (by omega) ?_; conv => whnf) | (refine arU8 (by omega) (by omega) ?_; conv => whnf)))
                  refine ⟨u + 1, by omega, by omega, ?_⟩
                  rw [hcu]
                  (conv => whnf); (refine imp_auto hA ?_; conv => whnf); exact ⟨rfl, rfl, rfl, (by repeat' (first | exact trivial | exact rfl | apply And.intro)), (by repeat' (first | exact trivial | exact rfl | (intro _ _; exact rfl) | (intro _ hj; exact absurd hj (Nat.not_lt_zero _)) | exact Nat.le_refl _ | exact Or.inl (And.intro (fun h => h) rfl) | apply And.intro)), rfl⟩
                · have h7 : ¬ A.getD u 0 = c := fun h => h6 (h.trans hcd)
                  have hcu : cN A c (u + 1) = cN A c u := by simp only [cN, if_neg h7]
                  conv => whnf
                  (repeat' (first | (refine And.intro (by (first | omega | assumption | (simp only [nadd_eq]; omega) | (simp [nadd_eq]; omega))) ?_; conv => whnf) | (refine arI64 (by omega) (by omega) ?_; conv => whnf) | (refine arU32 (by omega) (by omega) ?_; conv => whnf) | (refine arU8 (by omega) (by omega) ?_; conv => whnf)))
                  refine ⟨u + 1, by omega, by omega, ?_⟩
                  rw [hcu]
                  (conv => whnf); (refine imp_auto hA ?_; conv => whnf); exact ⟨rfl, rfl, rfl, (by repeat' (first | exact trivial | exact rfl | apply And.intro)), (by repeat' (first | exact trivial | exact rfl | (intro _ _; exact rfl) | (intro _ hj; exact absurd hj (Nat.not_lt_zero _)) | exact Nat.le_refl _ | exact Or.inl (And.intro (fun h => h) rfl) | apply And.intro)), rfl⟩
              · have hul : u = A.length := by clear hca hcb hoa hob hin hin0 hmx hxl hoth hs0 hs1 hcd; omega
                subst hul
                conv => whnf
                refine loop_auto (α := Nat) (ds := []) (N := 6) (fun u => [(11, sInt .i64 (cN B c u : Int)), (58, sInt .i64 (u : Int))]) [] (fun _ => [])
                  (fun u => u ≤ B.length) (fun u => B.length - u) 0 (Nat.zero_le _) ?_ fun u hu => ?_
                · (conv => whnf); (refine imp_auto hA ?_; conv => whnf); exact ⟨rfl, rfl, rfl, (by repeat' (first | exact trivial | exact rfl | apply And.intro)), (by repeat' (first | exact trivial | exact rfl | (intro _ _; exact rfl) | (intro _ hj; exact absurd hj (Nat.not_lt_zero _)) | exact Nat.le_refl _ | exact Or.inl (And.intro (fun h => h) rfl) | apply And.intro)), rfl⟩
                · have hcl := cN_le B c u
                  conv => whnf
                  refine dsplit (fun h5 => ?_) (fun h5 => ?_)
                  · conv => whnf
                    (refine join_plain ?_; conv => whnf)
                    (repeat' (first | (refine And.intro (by (first | omega | assumption | (simp only [nadd_eq]; omega) | (simp [nadd_eq]; omega))) ?_; conv => whnf) | (refine arI64 (by omega) (by omega) ?_; conv => whnf) | (refine arU32 (by omega) (by omega) ?_; conv => whnf) | (refine arU8 (by omega) (by omega) ?_; conv => whnf)))
                    refine dsplit (fun h6 => ?_) (fun h6 => ?_)
                    · have h7 : B.getD u 0 = c := h6.trans hcd.symm
                      have hcu : cN B c (u + 1) = cN B c u + 1 := by simp only [cN, if_pos h7]
                      conv => whnf
                      (repeat' (first | (refine And.intro (by (first | omega | assumption | (simp only [nadd_eq]; omega) | (simp [nadd_eq]; omega))) ?_; conv => whnf) | (refine arI64 (by omega) (by omega) ?_; conv => whnf) | (refine arU32 (by omega) (by omega) ?_; conv => whnf) | (refine arU8 (by omega) (by omega) ?_; conv => whnf)))
                      refine ⟨u + 1, by omega, by omega, ?_⟩
                      rw [hcu]
                      (conv => whnf); (refine imp_auto hA ?_; conv => whnf); exact ⟨rfl, rfl, rfl, (by repeat' (first | exact trivial | exact rfl | apply And.intro)), (by repeat' (first | exact trivial | exact rfl | (intro _ _; exact rfl) | (intro _ hj; exact absurd hj (Nat.not_lt_zero _)) | exact Nat.le_refl _ | exact Or.inl (And.intro (fun h => h) rfl) | apply And.intro)), rfl⟩
                    · have h7 : ¬ B.getD u 0 = c := fun h => h6 (h.trans hcd)
                      have hcu : cN B c (u + 1) = cN B c u := by simp only [cN, if_neg h7]
                      conv => whnf
                      (repeat' (first | (refine And.intro (by (first | omega | assumption | (simp only [nadd_eq]; omega) | (simp [nadd_eq]; omega))) ?_; conv => whnf) | (refine arI64 (by omega) (by omega) ?_; conv => whnf) | (refine arU32 (by omega) (by omega) ?_; conv => whnf) | (refine arU8 (by omega) (by omega) ?_; conv => whnf)))
                      refine ⟨u + 1, by omega, by omega, ?_⟩
                      rw [hcu]
                      (conv => whnf); (refine imp_auto hA ?_; conv => whnf); exact ⟨rfl, rfl, rfl, (by repeat' (first | exact trivial | exact rfl | apply And.intro)), (by repeat' (first | exact trivial | exact rfl | (intro _ _; exact rfl) | (intro _ hj; exact absurd hj (Nat.not_lt_zero _)) | exact Nat.le_refl _ | exact Or.inl (And.intro (fun h => h) rfl) | apply And.intro)), rfl⟩
                  · have hul : u = B.length := by clear hca hcb hoa hob hin hin0 hmx hxl hoth hs0 hs1 hcd; omega
                    subst hul
                    conv => whnf
                    refine dsplit (fun h => absurd h hn1) (fun _ => ?_)
                    conv => whnf
                    refine dsplit (fun h => absurd h hn2) (fun _ => ?_)
                    conv => whnf
                    refine dsplit (fun h8 => ?_) (fun h8 => ?_)
                    · obtain ⟨hci, hd1⟩ := hyes h8
                      conv => whnf
                      (repeat' (first | (refine And.intro (by (first | omega | assumption | (simp only [nadd_eq]; omega) | (simp [nadd_eq]; omega))) ?_; conv => whnf) | (refine arI64 (by omega) (by omega) ?_; conv => whnf) | (refine arU32 (by omega) (by omega) ?_; conv => whnf) | (refine arU8 (by omega) (by omega) ?_; conv => whnf)))
                      refine dsplit (fun h9 => absurd hci (fun h => h9 (hcd.symm.trans h))) (fun h9 => ?_)
                      conv => whnf
                      (repeat' (first | (refine And.intro (by (first | omega | assumption | (simp only [nadd_eq]; omega) | (simp [nadd_eq]; omega))) ?_; conv => whnf) | (refine arI64 (by omega) (by omega) ?_; conv => whnf) | (refine arU32 (by omega) (by omega) ?_; conv => whnf) | (refine arU8 (by omega) (by omega) ?_; conv => whnf)))
                      refine ⟨v + 1, hv1 h4, hv2 h4, ?_⟩
                      rw [hd1]
                      (conv => whnf); (refine imp_auto hA ?_; conv => whnf); exact ⟨rfl, rfl, rfl, (by repeat' (first | exact trivial | exact rfl | apply And.intro)), (by repeat' (first | exact trivial | exact rfl | (intro _ _; exact rfl) | (intro _ hj; exact absurd hj (Nat.not_lt_zero _)) | exact Nat.le_refl _ | exact Or.inl (And.intro (fun h => h) rfl) | apply And.intro)), rfl⟩
                    · have hd1 := hno h8
                      conv => whnf
                      (repeat' (first | (refine And.intro (by (first | omega | assumption | (simp only [nadd_eq]; omega) | (simp [nadd_eq]; omega))) ?_; conv => whnf) | (refine arI64 (by omega) (by omega) ?_; conv => whnf) | (refine arU32 (by omega) (by omega) ?_; conv => whnf) | (refine arU8 (by omega) (by omega) ?_; conv => whnf)))
                      refine ⟨v + 1, hv1 h4, hv2 h4, ?_⟩
                      rw [hd1]
                      (conv => whnf); (refine imp_auto hA ?_; conv => whnf); exact ⟨rfl, rfl, rfl, (by repeat' (first | exact trivial | exact rfl | apply And.intro)), (by repeat' (first | exact trivial | exact rfl | (intro _ _; exact rfl) | (intro _ hj; exact absurd hj (Nat.not_lt_zero _)) | exact Nat.le_refl _ | exact Or.inl (And.intro (fun h => h) rfl) | apply And.intro)), rfl⟩
          · have hvl : v = (A ++ B).length := by clear hyes hno hv1 hv2 hca hcb hcd; omega
            have hone := dN_one hs0 hs1 hoth
            rw [← hvl] at hone
            have hd2 : ¬ (1 : Int) < ((dN A B v : Nat) : Int) := Int.not_lt.2 (Int.ofNat_le.2 hone)
            clear hyes hno hv1 hv2 hca hcb
            conv => whnf
            refine dsplit (fun h => absurd h hd2) (fun _ => ?_)
            conv => whnf
            rw [← hmx]
            (repeat' (first | (refine And.intro (by (first | omega | assumption | (simp only [nadd_eq]; omega) | (simp [nadd_eq]; omega))) ?_; conv => whnf) | (refine arI64 (by omega) (by omega) ?_; conv => whnf) | (refine arU32 (by omega) (by omega) ?_; conv => whnf) | (refine arU8 (by omega) (by omega) ?_; conv => whnf)))
            refine ⟨i + 1, by omega, by omega, ?_⟩
            rw [hB']
            (conv => whnf); (refine imp_auto hA ?_; conv => whnf); exact ⟨rfl, rfl, rfl, (by repeat' (first | exact trivial | exact rfl | apply And.intro)), (by repeat' (first | exact trivial | exact rfl | (intro _ _; exact rfl) | (intro _ hj; exact absurd hj (Nat.not_lt_zero _)) | exact Nat.le_refl _ | exact Or.inl (And.intro (fun h => h) rfl) | apply And.intro)), rfl⟩
      · obtain rfl : i = m := by omega
        have hlo := longest_spec k t a b i (by omega) ht
        rw [most_mx k t i]
        conv => whnf
        (refine call_auto hP (hlo) ?_; conv => whnf); (refine ⟨⟨rfl, rfl, rfl, (by repeat' (first | exact trivial | exact rfl | (intro _ _; exact rfl) | (intro _ hj; exact absurd hj (Nat.not_lt_zero _)) | exact Nat.le_refl _ | exact Or.inl (And.intro (fun h => h) rfl) | apply And.intro)), rfl, rfl⟩, ?_⟩; conv => whnf)
        refine dsplit (fun h3 => ?_) (fun h3 => ?_)
        · conv => whnf
          (refine call_auto hP (awake_spec) ?_; conv => whnf); (refine ⟨⟨rfl, rfl, rfl, (by repeat' (first | exact trivial | exact rfl | (intro _ _; exact rfl) | (intro _ hj; exact absurd hj (Nat.not_lt_zero _)) | exact Nat.le_refl _ | exact Or.inl (And.intro (fun h => h) rfl) | apply And.intro)), rfl, rfl⟩, ?_⟩; conv => whnf)
          (refine fin_auto ?_; conv => whnf); exact ⟨rfl, rfl, rfl, rfl, (by repeat' (first | exact trivial | exact rfl | (intro _ _; exact rfl) | (intro _ hj; exact absurd hj (Nat.not_lt_zero _)) | exact Nat.le_refl _ | exact Or.inl (And.intro (fun h => h) rfl) | apply And.intro)), rfl⟩
        · exact absurd rfl h3
end Go.Proofs.Ytfkhaicghoiijac
