/- RoundFew: the walk, and the law. -/
import Derived.Test.YtfkhaicghoiijaaRt
import Derived.Test.YtfkhaicghoiijaaSxX
namespace Go.Proofs.Ytfkhaicghoiijaa
open Go Go.Sx

/-- What a counter is told, deep. -/
def toldD (m : Nat) (nb : Nat → Nat) (bz : Nat → Nat → Bool) (pk : Nat → Int) : DV := .sl 2 m fun j c => match c with
  | 0 => .sl 1 (nb j) fun i _ => .v (.bool (bz j i))
  | _ => .v (.int .i64 (pk j))
theorem told_of {wd m : Nat} {f : Nat → Nat → DV} (h : DVT Try.prog 4 (.sl 47) (.sl wd m f)) : ∃ nb bz pk, DvEqB (.sl wd m f) (toldD m nb bz pk) ∧ m ≤ maxLen ∧ ∀ j, j < m → nb j ≤ maxLen ∧ -9223372036854775808 ≤ pk j ∧ pk j ≤ 9223372036854775807 := by
  simp only [DVT] at h
  obtain ⟨n, f', cols, hc, _, he, hm, hrow⟩ := h
  have hcols : cols = [.sl 4, .i .i64] := by
    have : colsT Try.prog 6 47 = some [.sl 4, .i .i64] := by kernel_rfl
    rw [this] at hc; exact (Option.some.inj hc).symm
  subst hcols
  cases he
  have h1 : ∀ j, j < m → ∃ x : Nat × (Nat → Bool) × Int, (DvEqB (f j 0) (.sl 1 x.1 fun i _ => .v (.bool (x.2.1 i)))) ∧ f j 1 = .v (.int .i64 x.2.2) ∧ x.1 ≤ maxLen ∧ -9223372036854775808 ≤ x.2.2 ∧ x.2.2 ≤ 9223372036854775807 := fun j hj => by
    have a := hrow j hj 0 _ rfl
    have b := hrow j hj 1 _ rfl
    simp only [DVT] at a b
    obtain ⟨n2, f2, cols2, hc2, _, he2, hm2, hrow2⟩ := a
    obtain ⟨p, hp, hp0, hp1⟩ := b
    have hcols2 : cols2 = [.b] := by
      have : colsT Try.prog 6 4 = some [.b] := by kernel_rfl
      rw [this] at hc2; exact (Option.some.inj hc2).symm
    subst hcols2
    have h2 : ∀ i, i < n2 → ∃ b : Bool, f2 i 0 = .v (.bool b) := fun i hi => by
      have := hrow2 i hi 0 _ rfl
      simp only [DVT] at this
      exact this
    obtain ⟨g, hg⟩ := choose_lt h2
    refine ⟨(n2, g, p), ?_, hp, hm2, hp0, hp1⟩
    rw [he2]
    refine ⟨rfl, rfl, fun i hi c hc => ?_⟩
    have hc : c < 1 := hc
    obtain rfl : c = 0 := by omega
    rw [hg i hi]; exact rfl
  obtain ⟨g, hg⟩ := choose_lt h1
  refine ⟨fun j => (g j).1, fun j => (g j).2.1, fun j => (g j).2.2, ⟨rfl, rfl, fun j hj c hc => ?_⟩, hm, fun j hj => (hg j hj).2.2⟩
  obtain ⟨k1, k2, _⟩ := hg j hj
  have hc : c < 2 := hc
  match c, hc with
  | 0, _ => exact k1
  | 1, _ => rw [k2]; exact rfl
def fewBusy (bz : Nat → Nat → Bool) (j i : Nat) : Bool := if i < 1 then true else bz j (i - 1)
theorem few_ended {n nbb : Nat} {pk : Int} {bs ow : Nat → Bool} (hn : 1 ≤ n) (hb : bs 0 = true) (hnb : 1 ≤ nbb) (hp : 1 ≤ pk) (h : cnt ow n = 0 ∨ ow 0 = true) : ended n pk nbb bs ow = false ∧ after n pk nbb bs ow 0 = true := by
  have h0 : ¬ ((0 : Int) = pk) := by omega
  have hnb' : (0 : Int) < nbb := by omega
  have hisb : isb nbb bs 0 = true := by simp [isb, hb]; omega
  rcases h with h | h
  · have hz : cnt (kept pk nbb bs ow) n = 0 := cnt_none fun i hi => by simp [kept, cnt_zero h i hi]
    exact ⟨by simp [ended, h], by simp only [after, hz, if_true]; exact hisb⟩
  · have hk : kept pk nbb bs ow 0 = true := by simp [kept, h, hisb, h0]
    have hpos := cnt_some (f := kept pk nbb bs ow) (n := n) (i := 0) hn hk
    have hne : ¬ cnt (kept pk nbb bs ow) n = 0 := by omega
    exact ⟨by simp [ended, hne], by simp only [after, hne, if_false]; exact hk⟩
theorem few_spec (n0 : Int) (m : Nat) (nb : Nat → Nat) (bz : Nat → Nat → Bool) (pk : Nat → Int) (h0 : 0 ≤ n0) (h1 : n0 ≤ 255) (hm : m ≤ maxLen) (hpk : ∀ j, j < m → -9223372036854775808 ≤ pk j ∧ pk j ≤ 9223372036854775807) :
    FSpec Try.prog 8 [(0, some (.dp false (toldD m nb bz pk)))] 1 [.l (.v (.int .u8 n0)), .l (.fs 0 [] 2 0 m 0)] fun x _ _ => x = sBool true := by
  unfold maxLen at hm
  refine FSpec.mono (Q := fun x h k => x = sBool true ∧ k = 1 ∧ h = []) ?_ fun x h k hx => hx.1
  refine spec_of_ev Try.func8 ic8_eq (rs := [.t 4]) (by kernel_rfl) (by kernel_rfl) (by kernel_rfl) fun G hP hA => ?_
  obtain ⟨n, hn, hn1, hn2⟩ : ∃ n : Nat, (n : Int) = 2 + n0 % 63 ∧ 1 ≤ n ∧ n ≤ 64 := ⟨(2 + n0 % 63).toNat, by omega, by omega, by omega⟩
  have haw := awake_spec
  unfold evF ic8
  conv => whnf
  refine arI64 (by omega) (by omega) ?_
  conv => whnf
  refine remI (by omega) (by omega) ?_
  conv => whnf
  refine arI64 (by omega) (by omega) ?_
  rw [← hn]
  conv => whnf
  (refine call_auto hP (new_spec n) ?_; conv => whnf); (refine ⟨⟨rfl, rfl, rfl, (by repeat' (first | exact trivial | exact rfl | (intro _ _; exact rfl) | (intro _ hj; exact absurd hj (Nat.not_lt_zero _)) | exact Nat.le_refl _ | exact Or.inl (And.intro (fun h => h) rfl) | apply And.intro)), rfl, rfl⟩, ?_⟩; conv => whnf)
  rw [show (min (max (n : Int) 0) 64).toNat = n by omega]
  refine dsplit (fun h5 => ?_) (fun h5 => ?_)
  · conv => whnf
    (refine call_auto hP (haw) ?_; conv => whnf); (refine ⟨⟨rfl, rfl, rfl, (by repeat' (first | exact trivial | exact rfl | (intro _ _; exact rfl) | (intro _ hj; exact absurd hj (Nat.not_lt_zero _)) | exact Nat.le_refl _ | exact Or.inl (And.intro (fun h => h) rfl) | apply And.intro)), rfl, rfl⟩, ?_⟩; conv => whnf)
    (refine fin_auto ?_; conv => whnf); exact ⟨rfl, rfl, rfl, rfl, (by repeat' (first | exact trivial | exact rfl | (intro _ _; exact rfl) | (intro _ hj; exact absurd hj (Nat.not_lt_zero _)) | exact Nat.le_refl _ | exact Or.inl (And.intro (fun h => h) rfl) | apply And.intro)), rfl⟩
  · conv => whnf
    refine loop_auto (α := Nat × (Nat → Bool)) (ds := []) (N := 3) (fun x => [(7, sInt .i64 0), (31, sInt .i64 (x.1 : Int))]) []
      (fun x => [(1, some (.st [.s 2 1 0 n 0, .v (.int .i64 (cnt x.2 n)), .v (.int .i64 0)])), (2, some (.ar 1 n fun i => [.bool (x.2 i)]))])
      (fun x => x.1 ≤ m ∧ (cnt x.2 n = 0 ∨ x.2 0 = true)) (fun x => m - x.1) (0, fun _ => false) ⟨Nat.zero_le _, .inl (cnt_none fun _ _ => rfl)⟩ ?_ fun x hx => ?_
    · have hz : cnt (fun _ => false) n = 0 := cnt_none fun _ _ => rfl
      (conv => whnf); (refine imp_auto hA ?_; conv => whnf); refine ⟨rfl, rfl, rfl, (by repeat' (first | exact trivial | exact rfl | apply And.intro)), ?_, rfl⟩
      exact And.intro (by simp only [hz]; exact rfl) (by repeat' (first | exact trivial | exact rfl | (intro _ _; exact rfl) | (intro _ hj; exact absurd hj (Nat.not_lt_zero _)) | exact Nat.le_refl _ | exact Or.inl (And.intro (fun h => h) rfl) | apply And.intro))
    · obtain ⟨j, ow⟩ := x
      obtain ⟨hj, how⟩ := hx
      conv => whnf
      refine dsplit (fun h6 => ?_) (fun h6 => ?_)
      · have hjm : j < m := by omega
        obtain ⟨hp0, hp1⟩ := hpk j hjm
        obtain ⟨nbb, hnbb⟩ : ∃ k : Nat, k = 1 + (min ((nb j : Nat) : Int) 70).toNat := ⟨_, rfl⟩
        obtain ⟨he, hae⟩ := few_ended (n := n) (nbb := nbb) (pk := max (pk j) 1) (bs := fewBusy bz j) (ow := ow) hn1 rfl (by omega) (by omega) how
        have ht := take_spec n ow 0 (max (pk j) 1) nbb (fewBusy bz j) hn2 (by omega) (by omega)
        rw [he] at ht
        subst hnbb
        conv => whnf
        (refine join_plain ?_; conv => whnf)
        (repeat' (first | (refine And.intro (by (first | omega | (simp only [nadd_eq]; omega) | (simp [nadd_eq]; omega))) ?_; conv => whnf) | (refine arI64 (by omega) (by omega) ?_; conv => whnf) | (refine arU32 (by omega) (by omega) ?_; conv => whnf) | (refine arU8 (by omega) (by omega) ?_; conv => whnf)))
        (refine call_auto hP (ht) ?_; conv => whnf); refine ⟨⟨rfl, rfl, rfl, ?_, rfl, rfl⟩, ?_⟩
        · refine And.intro rfl (And.intro (And.intro rfl (And.intro rfl fun _ _ => rfl)) (And.intro (And.intro rfl (And.intro (Nat.le_refl _) fun i hi => ?_)) trivial))
          simp only [fewBusy]
          by_cases h0 : i < 1
          · simp [h0]; rfl
          · simp [h0, flatRow, List.range_succ, nadd_eq]
        conv => whnf
        (repeat' (first | (refine And.intro (by (first | omega | (simp only [nadd_eq]; omega) | (simp [nadd_eq]; omega))) ?_; conv => whnf) | (refine arI64 (by omega) (by omega) ?_; conv => whnf) | (refine arU32 (by omega) (by omega) ?_; conv => whnf) | (refine arU8 (by omega) (by omega) ?_; conv => whnf)))
        have hy : after n (max (pk j) 1) (1 + (min ((nb j : Nat) : Int) 70).toNat) (fewBusy bz j) ow 0 = true := hae
        refine ⟨(j + 1, after n (max (pk j) 1) (1 + (min ((nb j : Nat) : Int) 70).toNat) (fewBusy bz j) ow), ⟨by show j + 1 ≤ m; omega, .inr hy⟩, by show m - (j + 1) < m - j; omega, ?_⟩
        (conv => whnf); (refine imp_auto hA ?_; conv => whnf); exact ⟨rfl, rfl, rfl, (by repeat' (first | exact trivial | exact rfl | apply And.intro)), (by repeat' (first | exact trivial | exact rfl | (intro _ _; exact rfl) | (intro _ hj; exact absurd hj (Nat.not_lt_zero _)) | exact Nat.le_refl _ | exact Or.inl (And.intro (fun h => h) rfl) | apply And.intro)), rfl⟩
      · conv => whnf
        (refine call_auto hP (count_spec n ow (cnt ow n) 0) ?_; conv => whnf); (refine ⟨⟨rfl, rfl, rfl, (by repeat' (first | exact trivial | exact rfl | (intro _ _; exact rfl) | (intro _ hj; exact absurd hj (Nat.not_lt_zero _)) | exact Nat.le_refl _ | exact Or.inl (And.intro (fun h => h) rfl) | apply And.intro)), rfl, rfl⟩, ?_⟩; conv => whnf)
        (refine call_auto hP (haw) ?_; conv => whnf); (refine ⟨⟨rfl, rfl, rfl, (by repeat' (first | exact trivial | exact rfl | (intro _ _; exact rfl) | (intro _ hj; exact absurd hj (Nat.not_lt_zero _)) | exact Nat.le_refl _ | exact Or.inl (And.intro (fun h => h) rfl) | apply And.intro)), rfl, rfl⟩, ?_⟩; conv => whnf)
        (refine fin_auto ?_; conv => whnf); exact ⟨rfl, rfl, rfl, rfl, (by repeat' (first | exact trivial | exact rfl | (intro _ _; exact rfl) | (intro _ hj; exact absurd hj (Nat.not_lt_zero _)) | exact Nat.le_refl _ | exact Or.inl (And.intro (fun h => h) rfl) | apply And.intro)), rfl⟩
end Go.Proofs.Ytfkhaicghoiijaa
