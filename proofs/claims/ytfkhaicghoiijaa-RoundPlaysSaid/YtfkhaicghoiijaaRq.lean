/- RoundPlays: the walk. -/
import Derived.Test.YtfkhaicghoiijaaRp
namespace Go.Proofs.Ytfkhaicghoiijaa
open Go Go.Sx

set_option maxRecDepth 20000 in
theorem plays_spec (n0 : Int) (m : Nat) (nb : Nat → Nat) (bz : Nat → Nat → Bool) (pk : Nat → Int) (hm : m ≤ maxLen) (hb : ∀ j, j < m → nb j ≤ maxLen) :
    FSpec Try.prog 6 [(0, some (.dp false (toldD m nb bz pk)))] 1 [.l (.v (.int .i64 n0)), .l (.fs 0 [] 2 0 m 0)] fun x _ _ => x = sBool true := by
  unfold maxLen at hm hb
  refine FSpec.mono (Q := fun x h k => x = sBool true ∧ k = 1 ∧ h = []) ?_ fun x h k hx => hx.1
  refine spec_of_ev Try.func6 ic6_eq (rs := [.t 4]) (by kernel_rfl) (by kernel_rfl) (by kernel_rfl) fun G hP hA => ?_
  obtain ⟨n, hn, hn1⟩ : ∃ n : Nat, (n : Int) = min (max n0 0) 64 ∧ n ≤ 64 := ⟨(min (max n0 0) 64).toNat, by omega, by omega⟩
  have haw := awake_spec
  have hnew := new_spec n0
  rw [show (min (max n0 0) 64).toNat = n by omega] at hnew
  unfold evF ic6
  conv => whnf
  (refine call_auto hP (hnew) ?_; conv => whnf); (refine ⟨⟨rfl, rfl, rfl, (by repeat' (first | exact trivial | exact rfl | (intro _ _; exact rfl) | (intro _ hj; exact absurd hj (Nat.not_lt_zero _)) | exact Nat.le_refl _ | exact Or.inl (And.intro (fun h => h) rfl) | apply And.intro)), rfl, rfl⟩, ?_⟩; conv => whnf)
  refine dsplit (fun h5 => ?_) (fun h5 => ?_)
  · conv => whnf
    (refine call_auto hP (haw) ?_; conv => whnf); (refine ⟨⟨rfl, rfl, rfl, (by repeat' (first | exact trivial | exact rfl | (intro _ _; exact rfl) | (intro _ hj; exact absurd hj (Nat.not_lt_zero _)) | exact Nat.le_refl _ | exact Or.inl (And.intro (fun h => h) rfl) | apply And.intro)), rfl, rfl⟩, ?_⟩; conv => whnf)
    (refine fin_auto ?_; conv => whnf); exact ⟨rfl, rfl, rfl, rfl, (by repeat' (first | exact trivial | exact rfl | (intro _ _; exact rfl) | (intro _ hj; exact absurd hj (Nat.not_lt_zero _)) | exact Nat.le_refl _ | exact Or.inl (And.intro (fun h => h) rfl) | apply And.intro)), rfl⟩
  · conv => whnf
    rw [← hn]
    refine loop_auto (α := Nat × (Nat → Bool) × Nat) (ds := []) (N := 5) (fun x => [(32, sInt .i64 (x.1 : Int))]) []
      (fun x => [(1, some (.st [.s 2 1 0 n 0, .v (.int .i64 (cnt x.2.1 n)), .v (.int .i64 (x.2.2 : Int))])), (2, some (.ar 1 n fun i => [.bool (x.2.1 i)])), (3, some (.st [.s 4 1 0 (owed x.2.1 n).length 0, .v (.int .i64 (x.2.2 : Int))])), (4, some (.ar 1 (owed x.2.1 n).length (intsE (owed x.2.1 n))))])
      (fun x => x.1 ≤ m ∧ x.2.2 ≤ x.1) (fun x => m - x.1) (0, (fun _ => false), 0) ⟨Nat.zero_le _, Nat.le_refl _⟩ ?_ fun x hx => ?_
    · have hz : cnt (fun _ => false) n = 0 := cnt_none fun _ _ => rfl
      have ho : owed (fun _ => false) n = [] := List.eq_nil_of_length_eq_zero (by rw [owed_cnt]; exact hz)
      simp only [hz, ho]
      conv => whnf
      refine Imp.trans (imp_nilc 3 0 1 _ rfl rfl) ?_
      (conv => whnf); (refine imp_auto hA ?_; conv => whnf); exact ⟨rfl, rfl, rfl, (by repeat' (first | exact trivial | exact rfl | apply And.intro)), (by repeat' (first | exact trivial | exact rfl | (intro _ _; exact rfl) | (intro _ hj; exact absurd hj (Nat.not_lt_zero _)) | exact Nat.le_refl _ | exact Or.inl (And.intro (fun h => h) rfl) | apply And.intro)), rfl⟩
    · obtain ⟨j, ow, c⟩ := x
      obtain ⟨hj, hc⟩ := hx
      conv => whnf
      refine dsplit (fun h6 => ?_) (fun h6 => ?_)
      · have hjm : j < m := by omega
        have hbj := hb j hjm
        conv => whnf
        (repeat' (first | (refine And.intro (by (first | omega | (simp only [nadd_eq]; omega) | (simp [nadd_eq]; omega))) ?_; conv => whnf) | (refine arI64 (by omega) (by omega) ?_; conv => whnf) | (refine arU32 (by omega) (by omega) ?_; conv => whnf) | (refine arU8 (by omega) (by omega) ?_; conv => whnf)))
        refine dsplit (fun h7 => ?_) (fun h7 => ?_)
        · conv => whnf
          (refine call_auto hP (haw) ?_; conv => whnf); (refine ⟨⟨rfl, rfl, rfl, (by repeat' (first | exact trivial | exact rfl | (intro _ _; exact rfl) | (intro _ hj; exact absurd hj (Nat.not_lt_zero _)) | exact Nat.le_refl _ | exact Or.inl (And.intro (fun h => h) rfl) | apply And.intro)), rfl, rfl⟩, ?_⟩; conv => whnf)
          (refine fin_auto ?_; conv => whnf); exact ⟨rfl, rfl, rfl, rfl, (by repeat' (first | exact trivial | exact rfl | (intro _ _; exact rfl) | (intro _ hj; exact absurd hj (Nat.not_lt_zero _)) | exact Nat.le_refl _ | exact Or.inl (And.intro (fun h => h) rfl) | apply And.intro)), rfl⟩
        · conv => whnf
          obtain ⟨e, he⟩ : ∃ e, e = ended n (pk j) (nb j) (bz j) ow := ⟨_, rfl⟩
          obtain ⟨o2, ho2⟩ : ∃ o2, o2 = after n (pk j) (nb j) (bz j) ow := ⟨_, rfl⟩
          have hcj : c ≤ j := hc
          have hm100 : m ≤ 100 := by omega
          have hte0 : 0 ≤ tb e := by cases e <;> decide
          have hte1 : tb e ≤ 1 := by cases e <;> decide
          obtain ⟨c2, hc2, hc2'⟩ : ∃ c2 : Nat, (c2 : Int) = c + tb e ∧ c2 ≤ c + 1 := ⟨(c + tb e).toNat, by omega, by omega⟩
          have hrt := refTake_spec n ow c (pk j) (nb j) (bz j) hn1 (by omega) (by omega)
          have htk := take_spec n ow c (pk j) (nb j) (bz j) hn1 (by omega) (by omega)
          have hct := count_spec n o2 (cnt o2 n) c2
          have how := owed_spec n o2 (cnt o2 n) c2 hn1
          have hja : nadd 0 ((j : Nat) : Int).toNat = j := by simp [nadd_eq]
          rw [← he, ← ho2, ← hc2] at hrt htk
          dsimp only
          rw [hja]
          refine call_flat_at 2 (fun i => [.bool (bz j i)]) rfl rfl rfl ?_ ?_ ?_
          · show 0 + _ ≤ nb (nadd 0 ((j : Nat) : Int).toNat)
            rw [hja]; omega
          · intro i hi
            refine ⟨rfl, fun cc hcc => ⟨.bool (bz j i), ?_⟩⟩
            obtain rfl : cc = 0 := by omega
            refine ⟨rfl, ?_⟩
            show DV.v (Value.bool (bz (nadd 0 ((j : Nat) : Int).toNat) (0 + i))) = _
            rw [hja, Nat.zero_add]
          conv => whnf
          (refine call_auto hP (hrt) ?_; conv => whnf); (refine ⟨⟨rfl, rfl, rfl, (by repeat' (first | exact trivial | exact rfl | (intro _ _; exact rfl) | (intro _ hj; exact absurd hj (Nat.not_lt_zero _)) | exact Nat.le_refl _ | exact Or.inl (And.intro (fun h => h) rfl) | apply And.intro)), rfl, rfl⟩, ?_⟩; conv => whnf)
          (refine drawP_intro (by rw [hP]; exact follows) (by kernel_rfl) ?_; conv => whnf)
          refine callD_flat_at 1 (fun i => [.bool (bz j i)]) rfl rfl rfl ?_ ?_ ?_
          · show 0 + _ ≤ nb j
            omega
          · intro i hi
            refine ⟨rfl, fun cc hcc => ⟨.bool (bz j i), ?_⟩⟩
            obtain rfl : cc = 0 := by omega
            refine ⟨rfl, ?_⟩
            show DV.v (Value.bool (bz j (0 + i))) = _
            rw [Nat.zero_add]
          conv => whnf
          (refine callD_auto hP (htk) ?_; conv => whnf); (refine ⟨⟨rfl, rfl, rfl, (by repeat' (first | exact trivial | exact rfl | (intro _ _; exact rfl) | (intro _ hj; exact absurd hj (Nat.not_lt_zero _)) | exact Nat.le_refl _ | exact Or.inl (And.intro (fun h => h) rfl) | apply And.intro)), rfl, rfl⟩, ?_⟩; conv => whnf)
          have hee : (e == decide ((c : Int) < (c2 : Int))) = true := by cases e <;> simp [tb] at hc2 <;> simp <;> omega
          rw [hee]
          conv => whnf
          (refine callD_auto hP (hct) ?_; conv => whnf); (refine ⟨⟨rfl, rfl, rfl, (by repeat' (first | exact trivial | exact rfl | (intro _ _; exact rfl) | (intro _ hj; exact absurd hj (Nat.not_lt_zero _)) | exact Nat.le_refl _ | exact Or.inl (And.intro (fun h => h) rfl) | apply And.intro)), rfl, rfl⟩, ?_⟩; conv => whnf)
          (repeat (refine And.intro (by (conv => whnf); exact ⟨rfl, rfl, rfl⟩) ?_; conv => whnf))
          refine dsplit (fun h8 => absurd rfl h8) (fun _ => ?_)
          conv => whnf
          (refine call_auto hP (how) ?_; conv => whnf); (refine ⟨⟨rfl, rfl, rfl, (by repeat' (first | exact trivial | exact rfl | (intro _ _; exact rfl) | (intro _ hj; exact absurd hj (Nat.not_lt_zero _)) | exact Nat.le_refl _ | exact Or.inl (And.intro (fun h => h) rfl) | apply And.intro)), rfl, rfl⟩, ?_⟩; conv => whnf)
          refine dsplit (fun h8 => absurd rfl h8) (fun _ => ?_)
          conv => whnf
          obtain ⟨L, hL⟩ : ∃ L, L = owed o2 n := ⟨_, rfl⟩
          have hLl : L.length ≤ 64 := by rw [hL]; exact Nat.le_trans (owed_len o2 n) hn1
          rw [← hL]
          refine loop_auto (α := Nat) (ds := []) (N := 11) (fun i => [(78, sInt .i64 (i : Int))]) [] (fun _ => [(6, none), (9, none)]) (fun i => i ≤ L.length) (fun i => L.length - i) 0 (Nat.zero_le _) ?_ fun i hi => ?_
          · (conv => whnf); (refine imp_auto hA ?_; conv => whnf); exact ⟨rfl, rfl, rfl, (by repeat' (first | exact trivial | exact rfl | apply And.intro)), (by repeat' (first | exact trivial | exact rfl | (intro _ _; exact rfl) | (intro _ hj; exact absurd hj (Nat.not_lt_zero _)) | exact Nat.le_refl _ | exact Or.inl (And.intro (fun h => h) rfl) | apply And.intro)), rfl⟩
          · conv => whnf
            refine dsplit (fun h9 => ?_) (fun h9 => ?_)
            · conv => whnf
              (refine drawP_intro (by rw [hP]; exact follows) (by kernel_rfl) ?_; conv => whnf)
              (repeat' (first | (refine And.intro (by (first | omega | (simp only [nadd_eq]; omega) | (simp [nadd_eq]; omega))) ?_; conv => whnf) | (refine arI64 (by omega) (by omega) ?_; conv => whnf) | (refine arU32 (by omega) (by omega) ?_; conv => whnf) | (refine arU8 (by omega) (by omega) ?_; conv => whnf)))
              refine dsplit (fun h10 => absurd rfl h10) (fun _ => ?_)
              conv => whnf
              (repeat' (first | (refine And.intro (by (first | omega | (simp only [nadd_eq]; omega) | (simp [nadd_eq]; omega))) ?_; conv => whnf) | (refine arI64 (by omega) (by omega) ?_; conv => whnf) | (refine arU32 (by omega) (by omega) ?_; conv => whnf) | (refine arU8 (by omega) (by omega) ?_; conv => whnf)))
              refine ⟨i + 1, by omega, by omega, ?_⟩
              (conv => whnf); (refine imp_auto hA ?_; conv => whnf); exact ⟨rfl, rfl, rfl, (by repeat' (first | exact trivial | exact rfl | apply And.intro)), (by repeat' (first | exact trivial | exact rfl | (intro _ _; exact rfl) | (intro _ hj; exact absurd hj (Nat.not_lt_zero _)) | exact Nat.le_refl _ | exact Or.inl (And.intro (fun h => h) rfl) | apply And.intro)), rfl⟩
            · conv => whnf
              (repeat' (first | (refine And.intro (by (first | omega | (simp only [nadd_eq]; omega) | (simp [nadd_eq]; omega))) ?_; conv => whnf) | (refine arI64 (by omega) (by omega) ?_; conv => whnf) | (refine arU32 (by omega) (by omega) ?_; conv => whnf) | (refine arU8 (by omega) (by omega) ?_; conv => whnf)))
              refine ⟨(j + 1, o2, c2), ⟨by show j + 1 ≤ m; omega, by show c2 ≤ j + 1; omega⟩, by show m - (j + 1) < m - j; omega, ?_⟩
              rw [hL]
              (conv => whnf); (refine imp_auto hA ?_; conv => whnf); exact ⟨rfl, rfl, rfl, (by repeat' (first | exact trivial | exact rfl | apply And.intro)), (by repeat' (first | exact trivial | exact rfl | (intro _ _; exact rfl) | (intro _ hj; exact absurd hj (Nat.not_lt_zero _)) | exact Nat.le_refl _ | exact Or.inl (And.intro (fun h => h) rfl) | apply And.intro)), rfl⟩
      · conv => whnf
        (refine call_auto hP (haw) ?_; conv => whnf); (refine ⟨⟨rfl, rfl, rfl, (by repeat' (first | exact trivial | exact rfl | (intro _ _; exact rfl) | (intro _ hj; exact absurd hj (Nat.not_lt_zero _)) | exact Nat.le_refl _ | exact Or.inl (And.intro (fun h => h) rfl) | apply And.intro)), rfl, rfl⟩, ?_⟩; conv => whnf)
        (refine fin_auto ?_; conv => whnf); exact ⟨rfl, rfl, rfl, rfl, (by repeat' (first | exact trivial | exact rfl | (intro _ _; exact rfl) | (intro _ hj; exact absurd hj (Nat.not_lt_zero _)) | exact Nat.le_refl _ | exact Or.inl (And.intro (fun h => h) rfl) | apply And.intro)), rfl⟩
end Go.Proofs.Ytfkhaicghoiijaa
