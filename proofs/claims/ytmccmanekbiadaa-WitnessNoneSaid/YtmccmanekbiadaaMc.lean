/- Witness*: until; Depth. · Witness*: pairs, Overtakes, Within. · Witness*: pairs with homes; Overtakes, Within; awake. · WitnessNone: the law's function. -/
import Derived.Test.YtmccmanekbiadaaMa
import Derived.Test.YtmccmanekbiadaaMb
set_option linter.unusedSimpArgs false
set_option linter.unusedVariables false
namespace Go.Proofs.Ytmccmanekbiadaa
open Go Go.Sx

def entE (k t : Nat → Int) (a : Nat → Int) (b : Nat → Bool) : Nat → List Value := fun i => [.int .i64 (k i), .int .i64 (t i), .int .i64 (a i), .bool (b i)]
/-- The first place at or behind m - d, ahead of m, where p is true; m: there is none. -/
def untilG (p : Nat → Bool) (m : Nat) : Nat → Nat
  | 0 => m
  | d + 1 => if p (m - (d + 1)) then m - (d + 1) else untilG p m d
def untilF (p : Nat → Bool) (m j : Nat) : Nat := untilG p m (m - j)
theorem until_hit {p : Nat → Bool} {m j : Nat} (hj : j < m) (hp : p j = true) : untilF p m j = j := by
  obtain ⟨d, rfl⟩ : ∃ d, m = j + (d + 1) := ⟨m - j - 1, by omega⟩
  unfold untilF
  rw [show j + (d + 1) - j = d + 1 by omega, untilG, show j + (d + 1) - (d + 1) = j by omega, if_pos hp]
theorem until_miss {p : Nat → Bool} {m j : Nat} (hj : j < m) (hp : p j = false) : untilF p m j = untilF p m (j + 1) := by
  obtain ⟨d, rfl⟩ : ∃ d, m = j + (d + 1) := ⟨m - j - 1, by omega⟩
  unfold untilF
  rw [show j + (d + 1) - j = d + 1 by omega, untilG, show j + (d + 1) - (d + 1) = j by omega, if_neg (by simp [hp]), show j + (d + 1) - (j + 1) = d by omega]
theorem until_end (p : Nat → Bool) (m : Nat) : untilF p m m = m := by
  unfold untilF
  rw [Nat.sub_self]; rfl
theorem until_le (p : Nat → Bool) (m : Nat) : ∀ j, untilF p m j ≤ m := by
  have : ∀ d, untilG p m d ≤ m := by
    intro d
    induction d with
    | zero => exact Nat.le_refl _
    | succ d ih =>
      unfold untilG
      split
      · omega
      · exact ih
  exact fun j => this _
def hitB (k t : Nat → Int) (v a b : Int) (j : Nat) : Bool := decide (t j = v) && (decide (k j = a) || decide (k j = b))
theorem until_spec (k t a : Nat → Int) (b : Nat → Bool) (m i : Nat) (v x y : Int) (hm : m ≤ 1000) (hi : i < m) :
    FSpec Try.prog 73 [(0, some (.ro 4 m (entE k t a b)))] 1 [.l (.s 0 4 0 m 0), .l (.v (.int .i64 (i : Int))), .l (.v (.int .i64 v)), .l (.v (.int .i64 x)), .l (.v (.int .i64 y))] fun r h n =>
      r = sInt .i64 ((untilF (hitB k t v x y) m (i + 1) : Nat) : Int) ∧ n = 1 ∧ h = [] := by
  refine spec_of_ev Try.func73 ic73_eq (rs := [.t 10]) (by kernel_rfl) (by kernel_rfl) (by kernel_rfl) fun G hP hA => ?_
  unfold evF ic73
  conv => whnf
  (repeat' (first | (refine And.intro (by (first | omega | assumption | (simp only [nadd_eq]; omega) | (simp [nadd_eq]; omega))) ?_; conv => whnf) | (refine arI64 (by omega) (by omega) ?_; conv => whnf) | (refine arU32 (by omega) (by omega) ?_; conv => whnf) | (refine arU8 (by omega) (by omega) ?_; conv => whnf)))
  refine loop_auto (α := Nat) (ds := []) (N := 1) (fun j => [(11, sInt .i64 (j : Int))]) [] (fun _ => [])
    (fun j => (i + 1 ≤ j ∧ j ≤ m) ∧ untilF (hitB k t v x y) m (i + 1) = untilF (hitB k t v x y) m j) (fun j => m - j) (i + 1) ⟨⟨Nat.le_refl _, hi⟩, rfl⟩ ?_ fun j hj => ?_
  · (conv => whnf); (refine imp_auto hA ?_; conv => whnf); exact ⟨rfl, rfl, rfl, (by repeat' (first | exact trivial | exact rfl | apply And.intro)), (by repeat' (first | exact trivial | exact rfl | (intro _ _; exact rfl) | (intro _ hj; exact absurd hj (Nat.not_lt_zero _)) | exact Nat.le_refl _ | exact Or.inl (Or.inl (And.intro (fun h => h) rfl)) | exact Or.inl rfl | apply And.intro)), rfl⟩
  · obtain ⟨hj, he⟩ := hj
    have hnj : nadd 0 ((j : Nat) : Int).toNat = j := by simp [nadd_eq]
    rw [he]
    conv => whnf
    refine dsplit (fun h1 => ?_) (fun h1 => ?_)
    · conv => whnf
      (repeat' (first | (refine And.intro (by (first | omega | assumption | (simp only [nadd_eq]; omega) | (simp [nadd_eq]; omega))) ?_; conv => whnf) | (refine arI64 (by omega) (by omega) ?_; conv => whnf) | (refine arU32 (by omega) (by omega) ?_; conv => whnf) | (refine arU8 (by omega) (by omega) ?_; conv => whnf)))
      rw [hnj]
      conv => whnf
      refine dsplit (fun h2 => ?_) (fun h2 => ?_)
      · conv => whnf
        (repeat' (first | (refine And.intro (by (first | omega | assumption | (simp only [nadd_eq]; omega) | (simp [nadd_eq]; omega))) ?_; conv => whnf) | (refine arI64 (by omega) (by omega) ?_; conv => whnf) | (refine arU32 (by omega) (by omega) ?_; conv => whnf) | (refine arU8 (by omega) (by omega) ?_; conv => whnf)))
        rw [hnj]
        conv => whnf
        refine dsplit (fun h3 => ?_) (fun h3 => ?_)
        · have hh : hitB k t v x y j = true := by unfold hitB; rw [decide_eq_true h2, decide_eq_true h3]; rfl
          rw [until_hit (by omega) hh]
          conv => whnf
          (refine fin_auto ?_; conv => whnf); exact ⟨rfl, rfl, rfl, rfl, (by repeat' (first | exact trivial | exact rfl | (intro _ _; exact rfl) | (intro _ hj; exact absurd hj (Nat.not_lt_zero _)) | exact Nat.le_refl _ | exact Or.inl (Or.inl (And.intro (fun h => h) rfl)) | exact Or.inl rfl | apply And.intro)), rfl⟩
        · conv => whnf
          (repeat' (first | (refine And.intro (by (first | omega | assumption | (simp only [nadd_eq]; omega) | (simp [nadd_eq]; omega))) ?_; conv => whnf) | (refine arI64 (by omega) (by omega) ?_; conv => whnf) | (refine arU32 (by omega) (by omega) ?_; conv => whnf) | (refine arU8 (by omega) (by omega) ?_; conv => whnf)))
          rw [hnj]
          conv => whnf
          refine dsplit (fun h4 => ?_) (fun h4 => ?_)
          · have hh : hitB k t v x y j = true := by unfold hitB; rw [decide_eq_true h2, decide_eq_true h4, Bool.or_true]; rfl
            rw [until_hit (by omega) hh]
            conv => whnf
            (refine fin_auto ?_; conv => whnf); exact ⟨rfl, rfl, rfl, rfl, (by repeat' (first | exact trivial | exact rfl | (intro _ _; exact rfl) | (intro _ hj; exact absurd hj (Nat.not_lt_zero _)) | exact Nat.le_refl _ | exact Or.inl (Or.inl (And.intro (fun h => h) rfl)) | exact Or.inl rfl | apply And.intro)), rfl⟩
          · have hh : hitB k t v x y j = false := by unfold hitB; rw [decide_eq_false h3, decide_eq_false h4, Bool.or_false, Bool.and_false]
            rw [until_miss (by omega) hh]
            conv => whnf
            (repeat' (first | (refine And.intro (by (first | omega | assumption | (simp only [nadd_eq]; omega) | (simp [nadd_eq]; omega))) ?_; conv => whnf) | (refine arI64 (by omega) (by omega) ?_; conv => whnf) | (refine arU32 (by omega) (by omega) ?_; conv => whnf) | (refine arU8 (by omega) (by omega) ?_; conv => whnf)))
            refine ⟨j + 1, ⟨by omega, rfl⟩, by omega, ?_⟩
            (conv => whnf); (refine imp_auto hA ?_; conv => whnf); exact ⟨rfl, rfl, rfl, (by repeat' (first | exact trivial | exact rfl | apply And.intro)), (by repeat' (first | exact trivial | exact rfl | (intro _ _; exact rfl) | (intro _ hj; exact absurd hj (Nat.not_lt_zero _)) | exact Nat.le_refl _ | exact Or.inl (Or.inl (And.intro (fun h => h) rfl)) | exact Or.inl rfl | apply And.intro)), rfl⟩
      · have hh : hitB k t v x y j = false := by unfold hitB; rw [decide_eq_false h2]; rfl
        rw [until_miss (by omega) hh]
        conv => whnf
        (repeat' (first | (refine And.intro (by (first | omega | assumption | (simp only [nadd_eq]; omega) | (simp [nadd_eq]; omega))) ?_; conv => whnf) | (refine arI64 (by omega) (by omega) ?_; conv => whnf) | (refine arU32 (by omega) (by omega) ?_; conv => whnf) | (refine arU8 (by omega) (by omega) ?_; conv => whnf)))
        refine ⟨j + 1, ⟨by omega, rfl⟩, by omega, ?_⟩
        (conv => whnf); (refine imp_auto hA ?_; conv => whnf); exact ⟨rfl, rfl, rfl, (by repeat' (first | exact trivial | exact rfl | apply And.intro)), (by repeat' (first | exact trivial | exact rfl | (intro _ _; exact rfl) | (intro _ hj; exact absurd hj (Nat.not_lt_zero _)) | exact Nat.le_refl _ | exact Or.inl (Or.inl (And.intro (fun h => h) rfl)) | exact Or.inl rfl | apply And.intro)), rfl⟩
    · obtain rfl : j = m := by omega
      rw [until_end]
      conv => whnf
      (refine fin_auto ?_; conv => whnf); exact ⟨rfl, rfl, rfl, rfl, (by repeat' (first | exact trivial | exact rfl | (intro _ _; exact rfl) | (intro _ hj; exact absurd hj (Nat.not_lt_zero _)) | exact Nat.le_refl _ | exact Or.inl (Or.inl (And.intro (fun h => h) rfl)) | exact Or.inl rfl | apply And.intro)), rfl⟩
theorem depth_spec (x y : Int) (hx : x = 3) : FSpec Try.prog 55 [] 0 [.l (.v (.int .i64 x)), .l (.v (.int .i64 y))] fun r h n => r = sInt .i64 2 ∧ n = 0 ∧ h = [] := by
  subst hx
  refine spec_of_ev Try.func55 ic55_eq (rs := [.t 4]) (by kernel_rfl) (by kernel_rfl) (by kernel_rfl) fun G hP hA => ?_
  unfold evF ic55
  conv => whnf
  (repeat' (first | (refine join_plain ?_; conv => whnf) | (refine dsplit (fun _ => ?_) (fun _ => ?_) <;> conv => whnf)))
  (refine fin_auto ?_; conv => whnf); exact ⟨rfl, rfl, rfl, rfl, (by repeat' (first | exact trivial | exact rfl | (intro _ _; exact rfl) | (intro _ hj; exact absurd hj (Nat.not_lt_zero _)) | exact Nat.le_refl _ | exact Or.inl (Or.inl (And.intro (fun h => h) rfl)) | exact Or.inl rfl | apply And.intro)), rfl⟩
theorem Depth3_spec (h : Nat → Int) (m : Nat) (start slots pool budget glob loc : Int) (hm : 1 ≤ m ∧ m ≤ 64) (hb : anyZ badH h m = false) :
    FSpec Try.prog 22 [(0, some (.ro 1 m (numE h)))] 1 [confA 3 0 m start slots pool budget glob loc] fun x h' k => x = sInt .i64 2 ∧ k = 1 ∧ h' = [] := by
  have hbn := buildNew3_ok h m start slots pool budget glob loc hm hb
  have hd := depth_spec 3 pool rfl
  refine spec_of_ev Try.func22 ic22_eq (rs := [.t 2]) (by kernel_rfl) (by kernel_rfl) (by kernel_rfl) fun G hP hA => ?_
  unfold evF ic22
  conv => whnf
  (refine call_auto hP (hbn) ?_; conv => whnf); (refine ⟨⟨rfl, rfl, rfl, (by repeat' (first | exact trivial | exact rfl | (intro _ _; exact rfl) | (intro _ hj; exact absurd hj (Nat.not_lt_zero _)) | exact Nat.le_refl _ | exact Or.inl (Or.inl (And.intro (fun h => h) rfl)) | exact Or.inl rfl | apply And.intro)), rfl, rfl⟩, ?_⟩; conv => whnf)
  (refine call_auto hP (hd) ?_; conv => whnf); (refine ⟨⟨rfl, rfl, rfl, (by repeat' (first | exact trivial | exact rfl | (intro _ _; exact rfl) | (intro _ hj; exact absurd hj (Nat.not_lt_zero _)) | exact Nat.le_refl _ | exact Or.inl (Or.inl (And.intro (fun h => h) rfl)) | exact Or.inl rfl | apply And.intro)), rfl, rfl⟩, ?_⟩; conv => whnf)
  (refine fin_auto ?_; conv => whnf); exact ⟨rfl, rfl, rfl, rfl, (by repeat' (first | exact trivial | exact rfl | (intro _ _; exact rfl) | (intro _ hj; exact absurd hj (Nat.not_lt_zero _)) | exact Nat.le_refl _ | exact Or.inl (Or.inl (And.intro (fun h => h) rfl)) | exact Or.inl rfl | apply And.intro)), rfl⟩
end Go.Proofs.Ytmccmanekbiadaa
set_option linter.unusedSimpArgs false
set_option linter.unusedVariables false
namespace Go.Proofs.Ytmccmanekbiadaa
open Go Go.Sx

def inB (n : Nat) (v : Int) : Bool := decide (0 ≤ v) && decide (v < (n : Int))
def okW (h : Nat → Int) (n : Nat) (v u : Int) : Bool := inB n v && (inB n u && decide (h v.toNat = h u.toNat))
theorem in_spec (n : Nat) (v : Int) (hn : n ≤ 1000) :
    FSpec Try.prog 53 [(0, some (.st [.s 1 1 0 n 0]))] 2 [.l (.v (.int .i64 v)), .l (.p 0 0 0 0)] fun r h' k => r = sBool (inB n v) ∧ k = 2 ∧ h' = [(0, some (.st [.s 1 1 0 n 0]))] := by
  refine spec_of_ev Try.func53 ic53_eq (rs := [.t 3]) (by kernel_rfl) (by kernel_rfl) (by kernel_rfl) fun G hP hA => ?_
  unfold evF ic53
  conv => whnf
  (repeat' (first | (refine join_plain ?_; conv => whnf) | (refine dsplit (fun _ => ?_) (fun _ => ?_) <;> conv => whnf)))
  all_goals ((refine fin_auto ?_; conv => whnf); refine ⟨rfl, rfl, rfl, bool_fin ?_, (by repeat' (first | exact trivial | exact rfl | (intro _ _; exact rfl) | (intro _ hj; exact absurd hj (Nat.not_lt_zero _)) | exact Nat.le_refl _ | exact Or.inl (Or.inl (And.intro (fun h => h) rfl)) | exact Or.inl rfl | apply And.intro)), rfl⟩; unfold inB; rw [Bool.eq_iff_iff]; simp; omega)
def capP (h : Nat → Int) (n : Nat) (k : Nat) : Heap := [(k, some (.st [.c 53 [k + 1]])), (k + 1, some (.st [.s (k + 2) 1 0 n 0])), (k + 2, some (.ro 1 n (numE h)))]
theorem ok_spec (h : Nat → Int) (n : Nat) (v u : Int) (hn : n ≤ 1000) :
    FSpec Try.prog 54 [(0, some (.st [.c 53 [1]])), (1, some (.st [.s 2 1 0 n 0])), (2, some (.ro 1 n (numE h)))] 3 [.l (.v (.int .i64 v)), .l (.v (.int .i64 u)), .l (.p 0 0 0 0), .l (.p 1 0 0 0)] fun r h' k =>
      r = sBool (okW h n v u) ∧ k = 3 ∧ h' = [(0, some (.st [.c 53 [1]])), (1, some (.st [.s 2 1 0 n 0]))] := by
  have h1 := in_spec n v hn
  have h2 := in_spec n u hn
  refine spec_of_ev Try.func54 ic54_eq (rs := [.t 6]) (by kernel_rfl) (by kernel_rfl) (by kernel_rfl) fun G hP hA => ?_
  unfold evF ic54
  cases hv : inB n v
  · rw [hv] at h1
    conv => whnf
    (refine drawP_intro (by rw [hP]; exact follows) (by kernel_rfl) ?_; conv => whnf)
    (refine callD_auto hP (h1) ?_; conv => whnf); (refine ⟨⟨rfl, rfl, rfl, (by repeat' (first | exact trivial | exact rfl | (intro _ _; exact rfl) | (intro _ hj; exact absurd hj (Nat.not_lt_zero _)) | exact Nat.le_refl _ | exact Or.inl (Or.inl (And.intro (fun h => h) rfl)) | exact Or.inl rfl | apply And.intro)), rfl, rfl⟩, ?_⟩; conv => whnf)
    (repeat (refine And.intro (by (conv => whnf); first | exact ⟨rfl, rfl, rfl⟩ | (refine And.intro (by (first | omega | assumption | (simp only [nadd_eq]; omega) | (simp [nadd_eq]; omega))) ?_; (conv => whnf); exact ⟨rfl, rfl, rfl⟩)) ?_; conv => whnf))
    conv => whnf
    (refine fin_auto ?_; conv => whnf); refine ⟨rfl, rfl, rfl, bool_fin ?_, (by repeat' (first | exact trivial | exact rfl | (intro _ _; exact rfl) | (intro _ hj; exact absurd hj (Nat.not_lt_zero _)) | exact Nat.le_refl _ | exact Or.inl (Or.inl (And.intro (fun h => h) rfl)) | exact Or.inl rfl | apply And.intro)), rfl⟩
    unfold okW
    rw [hv]; rfl
  · rw [hv] at h1
    cases hu : inB n u
    · rw [hu] at h2
      conv => whnf
      (refine drawP_intro (by rw [hP]; exact follows) (by kernel_rfl) ?_; conv => whnf)
      (refine callD_auto hP (h1) ?_; conv => whnf); (refine ⟨⟨rfl, rfl, rfl, (by repeat' (first | exact trivial | exact rfl | (intro _ _; exact rfl) | (intro _ hj; exact absurd hj (Nat.not_lt_zero _)) | exact Nat.le_refl _ | exact Or.inl (Or.inl (And.intro (fun h => h) rfl)) | exact Or.inl rfl | apply And.intro)), rfl, rfl⟩, ?_⟩; conv => whnf)
      (refine callD_auto hP (h2) ?_; conv => whnf); (refine ⟨⟨rfl, rfl, rfl, (by repeat' (first | exact trivial | exact rfl | (intro _ _; exact rfl) | (intro _ hj; exact absurd hj (Nat.not_lt_zero _)) | exact Nat.le_refl _ | exact Or.inl (Or.inl (And.intro (fun h => h) rfl)) | exact Or.inl rfl | apply And.intro)), rfl, rfl⟩, ?_⟩; conv => whnf)
      (repeat (refine And.intro (by (conv => whnf); first | exact ⟨rfl, rfl, rfl⟩ | (refine And.intro (by (first | omega | assumption | (simp only [nadd_eq]; omega) | (simp [nadd_eq]; omega))) ?_; (conv => whnf); exact ⟨rfl, rfl, rfl⟩)) ?_; conv => whnf))
      conv => whnf
      (refine fin_auto ?_; conv => whnf); refine ⟨rfl, rfl, rfl, bool_fin ?_, (by repeat' (first | exact trivial | exact rfl | (intro _ _; exact rfl) | (intro _ hj; exact absurd hj (Nat.not_lt_zero _)) | exact Nat.le_refl _ | exact Or.inl (Or.inl (And.intro (fun h => h) rfl)) | exact Or.inl rfl | apply And.intro)), rfl⟩
      unfold okW
      rw [hv, hu]; rfl
    · rw [hu] at h2
      have g1 : 0 ≤ v ∧ v < n := by unfold inB at hv; simpa using hv
      have g2 : 0 ≤ u ∧ u < n := by unfold inB at hu; simpa using hu
      conv => whnf
      (refine drawP_intro (by rw [hP]; exact follows) (by kernel_rfl) ?_; conv => whnf)
      (refine callD_auto hP (h1) ?_; conv => whnf); (refine ⟨⟨rfl, rfl, rfl, (by repeat' (first | exact trivial | exact rfl | (intro _ _; exact rfl) | (intro _ hj; exact absurd hj (Nat.not_lt_zero _)) | exact Nat.le_refl _ | exact Or.inl (Or.inl (And.intro (fun h => h) rfl)) | exact Or.inl rfl | apply And.intro)), rfl, rfl⟩, ?_⟩; conv => whnf)
      (refine callD_auto hP (h2) ?_; conv => whnf); (refine ⟨⟨rfl, rfl, rfl, (by repeat' (first | exact trivial | exact rfl | (intro _ _; exact rfl) | (intro _ hj; exact absurd hj (Nat.not_lt_zero _)) | exact Nat.le_refl _ | exact Or.inl (Or.inl (And.intro (fun h => h) rfl)) | exact Or.inl rfl | apply And.intro)), rfl, rfl⟩, ?_⟩; conv => whnf)
      (repeat' (first | (refine And.intro (by (first | omega | assumption | (simp only [nadd_eq]; omega) | (simp [nadd_eq]; omega))) ?_; conv => whnf) | (refine arI64 (by omega) (by omega) ?_; conv => whnf) | (refine arU32 (by omega) (by omega) ?_; conv => whnf) | (refine arU8 (by omega) (by omega) ?_; conv => whnf)))
      (repeat (refine And.intro (by (conv => whnf); first | exact ⟨rfl, rfl, rfl⟩ | (refine And.intro (by (first | omega | assumption | (simp only [nadd_eq]; omega) | (simp [nadd_eq]; omega))) ?_; (conv => whnf); exact ⟨rfl, rfl, rfl⟩)) ?_; conv => whnf))
      conv => whnf
      (refine fin_auto ?_; conv => whnf); refine ⟨rfl, rfl, rfl, bool_fin ?_, (by repeat' (first | exact trivial | exact rfl | (intro _ _; exact rfl) | (intro _ hj; exact absurd hj (Nat.not_lt_zero _)) | exact Nat.le_refl _ | exact Or.inl (Or.inl (And.intro (fun h => h) rfl)) | exact Or.inl rfl | apply And.intro)), rfl⟩
      unfold okW
      rw [hv, hu]
      simp [nadd_eq]
/-- Whether i's lock is overtaken by j's. -/
def pairB (k t : Nat → Int) (ok : Int → Int → Bool) (m i j : Nat) : Bool := decide (k j = 1) && (!decide (t j = t i) && (ok (t i) (t j) && (decide (untilF (hitB k t (t j) 4 4) m (j + 1) < m) && decide (untilF (hitB k t (t j) 4 4) m (j + 1) < untilF (hitB k t (t i) 4 5) m (i + 1)))))
/-- How many of p lie behind i and ahead of j. -/
def cntF (p : Nat → Bool) (i : Nat) : Nat → Nat
  | 0 => 0
  | j + 1 => cntF p i j + if i < j ∧ p j = true then 1 else 0
theorem cntF_zero (p : Nat → Bool) (i : Nat) : ∀ j, j ≤ i + 1 → cntF p i j = 0
  | 0, _ => rfl
  | j + 1, h => by rw [cntF, cntF_zero p i j (by omega), if_neg (by omega)]
theorem cntF_le (p : Nat → Bool) (i : Nat) : ∀ j, cntF p i j ≤ j
  | 0 => Nat.le_refl _
  | j + 1 => by
    have := cntF_le p i j
    rw [cntF]
    split <;> omega
def sumF (k t : Nat → Int) (ok : Int → Int → Bool) (m : Nat) : Nat → Nat
  | 0 => 0
  | i + 1 => sumF k t ok m i + if k i = 2 then cntF (pairB k t ok m i) i m else 0
theorem sumF_le (k t : Nat → Int) (ok : Int → Int → Bool) (m : Nat) (hm : m ≤ 100) : ∀ i, sumF k t ok m i ≤ 100 * i
  | 0 => Nat.le_refl _
  | i + 1 => by
    have := sumF_le k t ok m hm i
    have h2 := cntF_le (pairB k t ok m i) i m
    rw [sumF]
    split <;> omega
theorem all_spec (v u : Int) : FSpec Try.prog 52 [] 0 [.l (.v (.int .i64 v)), .l (.v (.int .i64 u))] fun r h' k => r = sBool true ∧ k = 0 ∧ h' = [] := by
  refine spec_of_ev Try.func52 ic52_eq (rs := [.t 4]) (by kernel_rfl) (by kernel_rfl) (by kernel_rfl) fun G hP hA => ?_
  unfold evF ic52
  conv => whnf
  (refine fin_auto ?_; conv => whnf); exact ⟨rfl, rfl, rfl, rfl, (by repeat' (first | exact trivial | exact rfl | (intro _ _; exact rfl) | (intro _ hj; exact absurd hj (Nat.not_lt_zero _)) | exact Nat.le_refl _ | exact Or.inl (Or.inl (And.intro (fun h => h) rfl)) | exact Or.inl rfl | apply And.intro)), rfl⟩
set_option maxHeartbeats 4000000 in
theorem pairsAll_spec (k t a : Nat → Int) (b : Nat → Bool) (m : Nat) (hm : m ≤ 100) :
    FSpec Try.prog 51 [(0, some (.ro 4 m (entE k t a b)))] 1 [.l (.s 0 4 0 m 0), .l (.c 52 [])] fun r h' n =>
      r = sInt .i64 ((sumF k t (fun _ _ => true) m m : Nat) : Int) ∧ n = 1 ∧ h' = [] := by
  refine spec_of_ev Try.func51 ic51_eq (rs := [.t 4]) (by kernel_rfl) (by kernel_rfl) (by kernel_rfl) fun G hP hA => ?_
  unfold evF ic51
  conv => whnf
  refine loop_auto (α := Nat) (ds := []) (N := 1) (fun i => [(5, sInt .i64 ((sumF k t (fun _ _ => true) m i : Nat) : Int)), (14, sInt .i64 (i : Int))]) [] (fun _ => [])
    (fun i => i ≤ m) (fun i => m - i) 0 (Nat.zero_le _) ?_ fun i hi => ?_
  · (conv => whnf); (refine imp_auto hA ?_; conv => whnf); exact ⟨rfl, rfl, rfl, (by repeat' (first | exact trivial | exact rfl | apply And.intro)), (by repeat' (first | exact trivial | exact rfl | (intro _ _; exact rfl) | (intro _ hj; exact absurd hj (Nat.not_lt_zero _)) | exact Nat.le_refl _ | exact Or.inl (Or.inl (And.intro (fun h => h) rfl)) | exact Or.inl rfl | apply And.intro)), rfl⟩
  · have hni : nadd 0 ((i : Nat) : Int).toNat = i := by simp [nadd_eq]
    have hsl := sumF_le k t (fun _ _ => true) m hm i
    conv => whnf
    refine dsplit (fun h1 => ?_) (fun h1 => ?_)
    · conv => whnf
      (refine join_plain ?_; conv => whnf)
      (repeat' (first | (refine And.intro (by (first | omega | assumption | (simp only [nadd_eq]; omega) | (simp [nadd_eq]; omega))) ?_; conv => whnf) | (refine arI64 (by omega) (by omega) ?_; conv => whnf) | (refine arU32 (by omega) (by omega) ?_; conv => whnf) | (refine arU8 (by omega) (by omega) ?_; conv => whnf)))
      refine dsplit (fun h2 => ?_) (fun h2 => ?_)
      · replace h2 : ¬ k i = 2 := h2
        have hsi : sumF k t (fun _ _ => true) m (i + 1) = sumF k t (fun _ _ => true) m i := by rw [sumF, if_neg h2]; rfl
        conv => whnf
        (repeat' (first | (refine And.intro (by (first | omega | assumption | (simp only [nadd_eq]; omega) | (simp [nadd_eq]; omega))) ?_; conv => whnf) | (refine arI64 (by omega) (by omega) ?_; conv => whnf) | (refine arU32 (by omega) (by omega) ?_; conv => whnf) | (refine arU8 (by omega) (by omega) ?_; conv => whnf)))
        refine ⟨i + 1, by omega, by omega, ?_⟩
        rw [hsi]
        (conv => whnf); (refine imp_auto hA ?_; conv => whnf); exact ⟨rfl, rfl, rfl, (by repeat' (first | exact trivial | exact rfl | apply And.intro)), (by repeat' (first | exact trivial | exact rfl | (intro _ _; exact rfl) | (intro _ hj; exact absurd hj (Nat.not_lt_zero _)) | exact Nat.le_refl _ | exact Or.inl (Or.inl (And.intro (fun h => h) rfl)) | exact Or.inl rfl | apply And.intro)), rfl⟩
      · replace h2 : ¬ ¬ k i = 2 := h2
        have h2' : k i = 2 := by simpa using h2
        have hsi : sumF k t (fun _ _ => true) m (i + 1) = sumF k t (fun _ _ => true) m i + cntF (pairB k t (fun _ _ => true) m i) i m := by rw [sumF, if_pos h2']
        have hui := until_spec k t a b m i (t i) 4 5 (by omega) (by omega)
        have hcz := cntF_zero (pairB k t (fun _ _ => true) m i) i (i + 1) (Nat.le_refl _)
        conv => whnf
        (refine call_auto hP (hui) ?_; conv => whnf); (refine ⟨⟨rfl, rfl, rfl, (by repeat' (first | exact trivial | exact rfl | (intro _ _; exact rfl) | (intro _ hj; exact absurd hj (Nat.not_lt_zero _)) | exact Nat.le_refl _ | exact Or.inl (Or.inl (And.intro (fun h => h) rfl)) | exact Or.inl rfl | apply And.intro)), rfl, rfl⟩, ?_⟩; conv => whnf)
        (repeat' (first | (refine And.intro (by (first | omega | assumption | (simp only [nadd_eq]; omega) | (simp [nadd_eq]; omega))) ?_; conv => whnf) | (refine arI64 (by omega) (by omega) ?_; conv => whnf) | (refine arU32 (by omega) (by omega) ?_; conv => whnf) | (refine arU8 (by omega) (by omega) ?_; conv => whnf)))
        refine loop_auto (α := Nat) (ds := []) (N := 1 + 1) (fun j => [(5, sInt .i64 ((sumF k t (fun _ _ => true) m i + cntF (pairB k t (fun _ _ => true) m i) i j : Nat) : Int)), (9, sInt .i64 (j : Int))]) [] (fun _ => [])
          (fun j => i + 1 ≤ j ∧ j ≤ m) (fun j => m - j) (i + 1) ⟨Nat.le_refl _, by omega⟩ ?_ fun j hj => ?_
        · rw [hcz, Nat.add_zero]
          (conv => whnf); (refine imp_auto hA ?_; conv => whnf); exact ⟨rfl, rfl, rfl, (by repeat' (first | exact trivial | exact rfl | apply And.intro)), (by repeat' (first | exact trivial | exact rfl | (intro _ _; exact rfl) | (intro _ hj; exact absurd hj (Nat.not_lt_zero _)) | exact Nat.le_refl _ | exact Or.inl (Or.inl (And.intro (fun h => h) rfl)) | exact Or.inl rfl | apply And.intro)), rfl⟩
        · have hnj : nadd 0 ((j : Nat) : Int).toNat = j := by simp [nadd_eq]
          have hcl := cntF_le (pairB k t (fun _ _ => true) m i) i j
          conv => whnf
          refine dsplit (fun h3 => ?_) (fun h3 => ?_)
          · have huj := until_spec k t a b m j (t j) 4 4 (by omega) (by omega)
            have hok := all_spec (t i) (t j)
            conv => whnf
            (refine join_plain ?_; conv => whnf)
            (repeat' (first | (refine And.intro (by (first | omega | assumption | (simp only [nadd_eq]; omega) | (simp [nadd_eq]; omega))) ?_; conv => whnf) | (refine arI64 (by omega) (by omega) ?_; conv => whnf) | (refine arU32 (by omega) (by omega) ?_; conv => whnf) | (refine arU8 (by omega) (by omega) ?_; conv => whnf)))
            refine dsplit (fun h4 => ?_) (fun h4 => ?_)
            · replace h4 : ¬ k j = 1 := h4
              have hp : pairB k t (fun _ _ => true) m i j = false := by unfold pairB; rw [decide_eq_false h4]; rfl
              have hcs : cntF (pairB k t (fun _ _ => true) m i) i (j + 1) = cntF (pairB k t (fun _ _ => true) m i) i j := by rw [cntF, if_neg (by simp [hp])]; rfl
              conv => whnf
              (repeat' (first | (refine And.intro (by (first | omega | assumption | (simp only [nadd_eq]; omega) | (simp [nadd_eq]; omega))) ?_; conv => whnf) | (refine arI64 (by omega) (by omega) ?_; conv => whnf) | (refine arU32 (by omega) (by omega) ?_; conv => whnf) | (refine arU8 (by omega) (by omega) ?_; conv => whnf)))
              refine ⟨j + 1, by omega, by omega, ?_⟩
              rw [hcs]
              (conv => whnf); (refine imp_auto hA ?_; conv => whnf); exact ⟨rfl, rfl, rfl, (by repeat' (first | exact trivial | exact rfl | apply And.intro)), (by repeat' (first | exact trivial | exact rfl | (intro _ _; exact rfl) | (intro _ hj; exact absurd hj (Nat.not_lt_zero _)) | exact Nat.le_refl _ | exact Or.inl (Or.inl (And.intro (fun h => h) rfl)) | exact Or.inl rfl | apply And.intro)), rfl⟩
            · replace h4 : ¬ ¬ k j = 1 := h4
              have h4' : k j = 1 := by simpa using h4
              conv => whnf
              refine dsplit (fun h5 => ?_) (fun h5 => ?_)
              · replace h5 : t j = t i := h5
                have hp : pairB k t (fun _ _ => true) m i j = false := by unfold pairB; rw [decide_eq_true h5, Bool.not_true, Bool.false_and, Bool.and_false]
                have hcs : cntF (pairB k t (fun _ _ => true) m i) i (j + 1) = cntF (pairB k t (fun _ _ => true) m i) i j := by rw [cntF, if_neg (by simp [hp])]; rfl
                conv => whnf
                (repeat' (first | (refine And.intro (by (first | omega | assumption | (simp only [nadd_eq]; omega) | (simp [nadd_eq]; omega))) ?_; conv => whnf) | (refine arI64 (by omega) (by omega) ?_; conv => whnf) | (refine arU32 (by omega) (by omega) ?_; conv => whnf) | (refine arU8 (by omega) (by omega) ?_; conv => whnf)))
                refine ⟨j + 1, by omega, by omega, ?_⟩
                rw [hcs]
                (conv => whnf); (refine imp_auto hA ?_; conv => whnf); exact ⟨rfl, rfl, rfl, (by repeat' (first | exact trivial | exact rfl | apply And.intro)), (by repeat' (first | exact trivial | exact rfl | (intro _ _; exact rfl) | (intro _ hj; exact absurd hj (Nat.not_lt_zero _)) | exact Nat.le_refl _ | exact Or.inl (Or.inl (And.intro (fun h => h) rfl)) | exact Or.inl rfl | apply And.intro)), rfl⟩
              · replace h5 : ¬ t j = t i := h5
                conv => whnf
                have hokv : (fun _ _ => true : Int → Int → Bool) (t i) (t j) = true := rfl
                (refine call_auto hP (hok) ?_; conv => whnf); (refine ⟨⟨rfl, rfl, rfl, (by repeat' (first | exact trivial | exact rfl | (intro _ _; exact rfl) | (intro _ hj; exact absurd hj (Nat.not_lt_zero _)) | exact Nat.le_refl _ | exact Or.inl (Or.inl (And.intro (fun h => h) rfl)) | exact Or.inl rfl | apply And.intro)), rfl, rfl⟩, ?_⟩; conv => whnf)
                (refine call_auto hP (huj) ?_; conv => whnf); (refine ⟨⟨rfl, rfl, rfl, (by repeat' (first | exact trivial | exact rfl | (intro _ _; exact rfl) | (intro _ hj; exact absurd hj (Nat.not_lt_zero _)) | exact Nat.le_refl _ | exact Or.inl (Or.inl (And.intro (fun h => h) rfl)) | exact Or.inl rfl | apply And.intro)), rfl, rfl⟩, ?_⟩; conv => whnf)
                refine dsplit (fun h6 => ?_) (fun h6 => ?_)
                · conv => whnf
                  refine dsplit (fun h7 => ?_) (fun h7 => ?_)
                  · have hp : pairB k t (fun _ _ => true) m i j = true := by
                      unfold pairB; rw [decide_eq_true h4', decide_eq_false h5, hokv, decide_eq_true (by omega), decide_eq_true (by omega)]; rfl
                    have hcs : cntF (pairB k t (fun _ _ => true) m i) i (j + 1) = cntF (pairB k t (fun _ _ => true) m i) i j + 1 := by rw [cntF, if_pos ⟨by omega, hp⟩]
                    conv => whnf
                    (repeat' (first | (refine And.intro (by (first | omega | assumption | (simp only [nadd_eq]; omega) | (simp [nadd_eq]; omega))) ?_; conv => whnf) | (refine arI64 (by omega) (by omega) ?_; conv => whnf) | (refine arU32 (by omega) (by omega) ?_; conv => whnf) | (refine arU8 (by omega) (by omega) ?_; conv => whnf)))
                    refine ⟨j + 1, by omega, by omega, ?_⟩
                    rw [hcs]
                    (conv => whnf); (refine imp_auto hA ?_; conv => whnf); exact ⟨rfl, rfl, rfl, (by repeat' (first | exact trivial | exact rfl | apply And.intro)), (by repeat' (first | exact trivial | exact rfl | (intro _ _; exact rfl) | (intro _ hj; exact absurd hj (Nat.not_lt_zero _)) | exact Nat.le_refl _ | exact Or.inl (Or.inl (And.intro (fun h => h) rfl)) | exact Or.inl rfl | apply And.intro)), rfl⟩
                  · have hp : pairB k t (fun _ _ => true) m i j = false := by
                      unfold pairB; rw [show decide (untilF (hitB k t (t j) 4 4) m (j + 1) < untilF (hitB k t (t i) 4 5) m (i + 1)) = false from decide_eq_false (by omega)]; simp
                    have hcs : cntF (pairB k t (fun _ _ => true) m i) i (j + 1) = cntF (pairB k t (fun _ _ => true) m i) i j := by rw [cntF, if_neg (by simp [hp])]; rfl
                    conv => whnf
                    (repeat' (first | (refine And.intro (by (first | omega | assumption | (simp only [nadd_eq]; omega) | (simp [nadd_eq]; omega))) ?_; conv => whnf) | (refine arI64 (by omega) (by omega) ?_; conv => whnf) | (refine arU32 (by omega) (by omega) ?_; conv => whnf) | (refine arU8 (by omega) (by omega) ?_; conv => whnf)))
                    refine ⟨j + 1, by omega, by omega, ?_⟩
                    rw [hcs]
                    (conv => whnf); (refine imp_auto hA ?_; conv => whnf); exact ⟨rfl, rfl, rfl, (by repeat' (first | exact trivial | exact rfl | apply And.intro)), (by repeat' (first | exact trivial | exact rfl | (intro _ _; exact rfl) | (intro _ hj; exact absurd hj (Nat.not_lt_zero _)) | exact Nat.le_refl _ | exact Or.inl (Or.inl (And.intro (fun h => h) rfl)) | exact Or.inl rfl | apply And.intro)), rfl⟩
                · have hp : pairB k t (fun _ _ => true) m i j = false := by
                    unfold pairB; rw [show decide (untilF (hitB k t (t j) 4 4) m (j + 1) < m) = false from decide_eq_false (by omega)]; simp
                  have hcs : cntF (pairB k t (fun _ _ => true) m i) i (j + 1) = cntF (pairB k t (fun _ _ => true) m i) i j := by rw [cntF, if_neg (by simp [hp])]; rfl
                  conv => whnf
                  (repeat' (first | (refine And.intro (by (first | omega | assumption | (simp only [nadd_eq]; omega) | (simp [nadd_eq]; omega))) ?_; conv => whnf) | (refine arI64 (by omega) (by omega) ?_; conv => whnf) | (refine arU32 (by omega) (by omega) ?_; conv => whnf) | (refine arU8 (by omega) (by omega) ?_; conv => whnf)))
                  refine ⟨j + 1, by omega, by omega, ?_⟩
                  rw [hcs]
                  (conv => whnf); (refine imp_auto hA ?_; conv => whnf); exact ⟨rfl, rfl, rfl, (by repeat' (first | exact trivial | exact rfl | apply And.intro)), (by repeat' (first | exact trivial | exact rfl | (intro _ _; exact rfl) | (intro _ hj; exact absurd hj (Nat.not_lt_zero _)) | exact Nat.le_refl _ | exact Or.inl (Or.inl (And.intro (fun h => h) rfl)) | exact Or.inl rfl | apply And.intro)), rfl⟩
          · obtain rfl : j = m := by omega
            conv => whnf
            (repeat' (first | (refine And.intro (by (first | omega | assumption | (simp only [nadd_eq]; omega) | (simp [nadd_eq]; omega))) ?_; conv => whnf) | (refine arI64 (by omega) (by omega) ?_; conv => whnf) | (refine arU32 (by omega) (by omega) ?_; conv => whnf) | (refine arU8 (by omega) (by omega) ?_; conv => whnf)))
            refine ⟨i + 1, by omega, by omega, ?_⟩
            rw [hsi]
            (conv => whnf); (refine imp_auto hA ?_; conv => whnf); exact ⟨rfl, rfl, rfl, (by repeat' (first | exact trivial | exact rfl | apply And.intro)), (by repeat' (first | exact trivial | exact rfl | (intro _ _; exact rfl) | (intro _ hj; exact absurd hj (Nat.not_lt_zero _)) | exact Nat.le_refl _ | exact Or.inl (Or.inl (And.intro (fun h => h) rfl)) | exact Or.inl rfl | apply And.intro)), rfl⟩
    · obtain rfl : i = m := by omega
      conv => whnf
      (refine fin_auto ?_; conv => whnf); exact ⟨rfl, rfl, rfl, rfl, (by repeat' (first | exact trivial | exact rfl | (intro _ _; exact rfl) | (intro _ hj; exact absurd hj (Nat.not_lt_zero _)) | exact Nat.le_refl _ | exact Or.inl (Or.inl (And.intro (fun h => h) rfl)) | exact Or.inl rfl | apply And.intro)), rfl⟩
end Go.Proofs.Ytmccmanekbiadaa
set_option linter.unusedSimpArgs false
set_option linter.unusedVariables false
namespace Go.Proofs.Ytmccmanekbiadaa
open Go Go.Sx

set_option maxHeartbeats 4000000 in
theorem pairsW_spec (k t a : Nat → Int) (b : Nat → Bool) (m : Nat) (hm : m ≤ 100) (h : Nat → Int) (N : Nat) (hN : N ≤ 1000) :
    FSpec Try.prog 51 ((0, some (.ro 4 m (entE k t a b))) :: capP h N 1) 4 [.l (.s 0 4 0 m 0), .l (.c 54 [1, 2])] fun r h' n =>
      r = sInt .i64 ((sumF k t (okW h N) m m : Nat) : Int) ∧ n = 4 ∧ h' = [(1, some (.st [.c 53 [2]])), (2, some (.st [.s 3 1 0 N 0]))] := by
  refine spec_of_ev Try.func51 ic51_eq (rs := [.t 4]) (by kernel_rfl) (by kernel_rfl) (by kernel_rfl) fun G hP hA => ?_
  unfold evF ic51
  conv => whnf
  refine loop_auto (α := Nat) (ds := []) (N := 4) (fun i => [(5, sInt .i64 ((sumF k t (okW h N) m i : Nat) : Int)), (14, sInt .i64 (i : Int))]) [] (fun _ => [(1, some (.st [.c 53 [2]])), (2, some (.st [.s 3 1 0 N 0]))])
    (fun i => i ≤ m) (fun i => m - i) 0 (Nat.zero_le _) ?_ fun i hi => ?_
  · (conv => whnf); (refine imp_auto hA ?_; conv => whnf); exact ⟨rfl, rfl, rfl, (by repeat' (first | exact trivial | exact rfl | apply And.intro)), (by repeat' (first | exact trivial | exact rfl | (intro _ _; exact rfl) | (intro _ hj; exact absurd hj (Nat.not_lt_zero _)) | exact Nat.le_refl _ | exact Or.inl (Or.inl (And.intro (fun h => h) rfl)) | exact Or.inl rfl | apply And.intro)), rfl⟩
  · have hni : nadd 0 ((i : Nat) : Int).toNat = i := by simp [nadd_eq]
    have hsl := sumF_le k t (okW h N) m hm i
    conv => whnf
    refine dsplit (fun h1 => ?_) (fun h1 => ?_)
    · conv => whnf
      (refine join_plain ?_; conv => whnf)
      (repeat' (first | (refine And.intro (by (first | omega | assumption | (simp only [nadd_eq]; omega) | (simp [nadd_eq]; omega))) ?_; conv => whnf) | (refine arI64 (by omega) (by omega) ?_; conv => whnf) | (refine arU32 (by omega) (by omega) ?_; conv => whnf) | (refine arU8 (by omega) (by omega) ?_; conv => whnf)))
      refine dsplit (fun h2 => ?_) (fun h2 => ?_)
      · replace h2 : ¬ k i = 2 := h2
        have hsi : sumF k t (okW h N) m (i + 1) = sumF k t (okW h N) m i := by rw [sumF, if_neg h2]; rfl
        conv => whnf
        (repeat' (first | (refine And.intro (by (first | omega | assumption | (simp only [nadd_eq]; omega) | (simp [nadd_eq]; omega))) ?_; conv => whnf) | (refine arI64 (by omega) (by omega) ?_; conv => whnf) | (refine arU32 (by omega) (by omega) ?_; conv => whnf) | (refine arU8 (by omega) (by omega) ?_; conv => whnf)))
        refine ⟨i + 1, by omega, by omega, ?_⟩
        rw [hsi]
        (conv => whnf); (refine imp_auto hA ?_; conv => whnf); exact ⟨rfl, rfl, rfl, (by repeat' (first | exact trivial | exact rfl | apply And.intro)), (by repeat' (first | exact trivial | exact rfl | (intro _ _; exact rfl) | (intro _ hj; exact absurd hj (Nat.not_lt_zero _)) | exact Nat.le_refl _ | exact Or.inl (Or.inl (And.intro (fun h => h) rfl)) | exact Or.inl rfl | apply And.intro)), rfl⟩
      · replace h2 : ¬ ¬ k i = 2 := h2
        have h2' : k i = 2 := by simpa using h2
        have hsi : sumF k t (okW h N) m (i + 1) = sumF k t (okW h N) m i + cntF (pairB k t (okW h N) m i) i m := by rw [sumF, if_pos h2']
        have hui := until_spec k t a b m i (t i) 4 5 (by omega) (by omega)
        have hcz := cntF_zero (pairB k t (okW h N) m i) i (i + 1) (Nat.le_refl _)
        conv => whnf
        (refine call_auto hP (hui) ?_; conv => whnf); (refine ⟨⟨rfl, rfl, rfl, (by repeat' (first | exact trivial | exact rfl | (intro _ _; exact rfl) | (intro _ hj; exact absurd hj (Nat.not_lt_zero _)) | exact Nat.le_refl _ | exact Or.inl (Or.inl (And.intro (fun h => h) rfl)) | exact Or.inl rfl | apply And.intro)), rfl, rfl⟩, ?_⟩; conv => whnf)
        (repeat' (first | (refine And.intro (by (first | omega | assumption | (simp only [nadd_eq]; omega) | (simp [nadd_eq]; omega))) ?_; conv => whnf) | (refine arI64 (by omega) (by omega) ?_; conv => whnf) | (refine arU32 (by omega) (by omega) ?_; conv => whnf) | (refine arU8 (by omega) (by omega) ?_; conv => whnf)))
        refine loop_auto (α := Nat) (ds := []) (N := 4 + 1) (fun j => [(5, sInt .i64 ((sumF k t (okW h N) m i + cntF (pairB k t (okW h N) m i) i j : Nat) : Int)), (9, sInt .i64 (j : Int))]) [] (fun _ => [(1, some (.st [.c 53 [2]])), (2, some (.st [.s 3 1 0 N 0]))])
          (fun j => i + 1 ≤ j ∧ j ≤ m) (fun j => m - j) (i + 1) ⟨Nat.le_refl _, by omega⟩ ?_ fun j hj => ?_
        · rw [hcz, Nat.add_zero]
          (conv => whnf); (refine imp_auto hA ?_; conv => whnf); exact ⟨rfl, rfl, rfl, (by repeat' (first | exact trivial | exact rfl | apply And.intro)), (by repeat' (first | exact trivial | exact rfl | (intro _ _; exact rfl) | (intro _ hj; exact absurd hj (Nat.not_lt_zero _)) | exact Nat.le_refl _ | exact Or.inl (Or.inl (And.intro (fun h => h) rfl)) | exact Or.inl rfl | apply And.intro)), rfl⟩
        · have hnj : nadd 0 ((j : Nat) : Int).toNat = j := by simp [nadd_eq]
          have hcl := cntF_le (pairB k t (okW h N) m i) i j
          conv => whnf
          refine dsplit (fun h3 => ?_) (fun h3 => ?_)
          · have huj := until_spec k t a b m j (t j) 4 4 (by omega) (by omega)
            have hok := ok_spec h N (t i) (t j) hN
            conv => whnf
            (refine join_plain ?_; conv => whnf)
            (repeat' (first | (refine And.intro (by (first | omega | assumption | (simp only [nadd_eq]; omega) | (simp [nadd_eq]; omega))) ?_; conv => whnf) | (refine arI64 (by omega) (by omega) ?_; conv => whnf) | (refine arU32 (by omega) (by omega) ?_; conv => whnf) | (refine arU8 (by omega) (by omega) ?_; conv => whnf)))
            refine dsplit (fun h4 => ?_) (fun h4 => ?_)
            · replace h4 : ¬ k j = 1 := h4
              have hp : pairB k t (okW h N) m i j = false := by unfold pairB; rw [decide_eq_false h4]; rfl
              have hcs : cntF (pairB k t (okW h N) m i) i (j + 1) = cntF (pairB k t (okW h N) m i) i j := by rw [cntF, if_neg (by simp [hp])]; rfl
              conv => whnf
              (repeat' (first | (refine And.intro (by (first | omega | assumption | (simp only [nadd_eq]; omega) | (simp [nadd_eq]; omega))) ?_; conv => whnf) | (refine arI64 (by omega) (by omega) ?_; conv => whnf) | (refine arU32 (by omega) (by omega) ?_; conv => whnf) | (refine arU8 (by omega) (by omega) ?_; conv => whnf)))
              refine ⟨j + 1, by omega, by omega, ?_⟩
              rw [hcs]
              (conv => whnf); (refine imp_auto hA ?_; conv => whnf); exact ⟨rfl, rfl, rfl, (by repeat' (first | exact trivial | exact rfl | apply And.intro)), (by repeat' (first | exact trivial | exact rfl | (intro _ _; exact rfl) | (intro _ hj; exact absurd hj (Nat.not_lt_zero _)) | exact Nat.le_refl _ | exact Or.inl (Or.inl (And.intro (fun h => h) rfl)) | exact Or.inl rfl | apply And.intro)), rfl⟩
            · replace h4 : ¬ ¬ k j = 1 := h4
              have h4' : k j = 1 := by simpa using h4
              conv => whnf
              refine dsplit (fun h5 => ?_) (fun h5 => ?_)
              · replace h5 : t j = t i := h5
                have hp : pairB k t (okW h N) m i j = false := by unfold pairB; rw [decide_eq_true h5, Bool.not_true, Bool.false_and, Bool.and_false]
                have hcs : cntF (pairB k t (okW h N) m i) i (j + 1) = cntF (pairB k t (okW h N) m i) i j := by rw [cntF, if_neg (by simp [hp])]; rfl
                conv => whnf
                (repeat' (first | (refine And.intro (by (first | omega | assumption | (simp only [nadd_eq]; omega) | (simp [nadd_eq]; omega))) ?_; conv => whnf) | (refine arI64 (by omega) (by omega) ?_; conv => whnf) | (refine arU32 (by omega) (by omega) ?_; conv => whnf) | (refine arU8 (by omega) (by omega) ?_; conv => whnf)))
                refine ⟨j + 1, by omega, by omega, ?_⟩
                rw [hcs]
                (conv => whnf); (refine imp_auto hA ?_; conv => whnf); exact ⟨rfl, rfl, rfl, (by repeat' (first | exact trivial | exact rfl | apply And.intro)), (by repeat' (first | exact trivial | exact rfl | (intro _ _; exact rfl) | (intro _ hj; exact absurd hj (Nat.not_lt_zero _)) | exact Nat.le_refl _ | exact Or.inl (Or.inl (And.intro (fun h => h) rfl)) | exact Or.inl rfl | apply And.intro)), rfl⟩
              · replace h5 : ¬ t j = t i := h5
                conv => whnf
                cases hokv : okW h N (t i) (t j)
                · rw [hokv] at hok
                  have hp : pairB k t (okW h N) m i j = false := by unfold pairB; rw [hokv, Bool.false_and, Bool.and_false, Bool.and_false]
                  have hcs : cntF (pairB k t (okW h N) m i) i (j + 1) = cntF (pairB k t (okW h N) m i) i j := by rw [cntF, if_neg (by simp [hp])]; rfl
                  (refine call_auto hP (hok) ?_; conv => whnf); (refine ⟨⟨rfl, rfl, rfl, (by repeat' (first | exact trivial | exact rfl | (intro _ _; exact rfl) | (intro _ hj; exact absurd hj (Nat.not_lt_zero _)) | exact Nat.le_refl _ | exact Or.inl (Or.inl (And.intro (fun h => h) rfl)) | exact Or.inl rfl | apply And.intro)), rfl, rfl⟩, ?_⟩; conv => whnf)
                  (repeat' (first | (refine And.intro (by (first | omega | assumption | (simp only [nadd_eq]; omega) | (simp [nadd_eq]; omega))) ?_; conv => whnf) | (refine arI64 (by omega) (by omega) ?_; conv => whnf) | (refine arU32 (by omega) (by omega) ?_; conv => whnf) | (refine arU8 (by omega) (by omega) ?_; conv => whnf)))
                  refine ⟨j + 1, by omega, by omega, ?_⟩
                  rw [hcs]
                  (conv => whnf); (refine imp_auto hA ?_; conv => whnf); exact ⟨rfl, rfl, rfl, (by repeat' (first | exact trivial | exact rfl | apply And.intro)), (by repeat' (first | exact trivial | exact rfl | (intro _ _; exact rfl) | (intro _ hj; exact absurd hj (Nat.not_lt_zero _)) | exact Nat.le_refl _ | exact Or.inl (Or.inl (And.intro (fun h => h) rfl)) | exact Or.inl rfl | apply And.intro)), rfl⟩
                rw [hokv] at hok
                (refine call_auto hP (hok) ?_; conv => whnf); (refine ⟨⟨rfl, rfl, rfl, (by repeat' (first | exact trivial | exact rfl | (intro _ _; exact rfl) | (intro _ hj; exact absurd hj (Nat.not_lt_zero _)) | exact Nat.le_refl _ | exact Or.inl (Or.inl (And.intro (fun h => h) rfl)) | exact Or.inl rfl | apply And.intro)), rfl, rfl⟩, ?_⟩; conv => whnf)
                (refine call_auto hP (huj) ?_; conv => whnf); (refine ⟨⟨rfl, rfl, rfl, (by repeat' (first | exact trivial | exact rfl | (intro _ _; exact rfl) | (intro _ hj; exact absurd hj (Nat.not_lt_zero _)) | exact Nat.le_refl _ | exact Or.inl (Or.inl (And.intro (fun h => h) rfl)) | exact Or.inl rfl | apply And.intro)), rfl, rfl⟩, ?_⟩; conv => whnf)
                refine dsplit (fun h6 => ?_) (fun h6 => ?_)
                · conv => whnf
                  refine dsplit (fun h7 => ?_) (fun h7 => ?_)
                  · have hp : pairB k t (okW h N) m i j = true := by
                      unfold pairB; rw [decide_eq_true h4', decide_eq_false h5, hokv, decide_eq_true (by omega), decide_eq_true (by omega)]; rfl
                    have hcs : cntF (pairB k t (okW h N) m i) i (j + 1) = cntF (pairB k t (okW h N) m i) i j + 1 := by rw [cntF, if_pos ⟨by omega, hp⟩]
                    conv => whnf
                    (repeat' (first | (refine And.intro (by (first | omega | assumption | (simp only [nadd_eq]; omega) | (simp [nadd_eq]; omega))) ?_; conv => whnf) | (refine arI64 (by omega) (by omega) ?_; conv => whnf) | (refine arU32 (by omega) (by omega) ?_; conv => whnf) | (refine arU8 (by omega) (by omega) ?_; conv => whnf)))
                    refine ⟨j + 1, by omega, by omega, ?_⟩
                    rw [hcs]
                    (conv => whnf); (refine imp_auto hA ?_; conv => whnf); exact ⟨rfl, rfl, rfl, (by repeat' (first | exact trivial | exact rfl | apply And.intro)), (by repeat' (first | exact trivial | exact rfl | (intro _ _; exact rfl) | (intro _ hj; exact absurd hj (Nat.not_lt_zero _)) | exact Nat.le_refl _ | exact Or.inl (Or.inl (And.intro (fun h => h) rfl)) | exact Or.inl rfl | apply And.intro)), rfl⟩
                  · have hp : pairB k t (okW h N) m i j = false := by
                      unfold pairB; rw [show decide (untilF (hitB k t (t j) 4 4) m (j + 1) < untilF (hitB k t (t i) 4 5) m (i + 1)) = false from decide_eq_false (by omega)]; simp
                    have hcs : cntF (pairB k t (okW h N) m i) i (j + 1) = cntF (pairB k t (okW h N) m i) i j := by rw [cntF, if_neg (by simp [hp])]; rfl
                    conv => whnf
                    (repeat' (first | (refine And.intro (by (first | omega | assumption | (simp only [nadd_eq]; omega) | (simp [nadd_eq]; omega))) ?_; conv => whnf) | (refine arI64 (by omega) (by omega) ?_; conv => whnf) | (refine arU32 (by omega) (by omega) ?_; conv => whnf) | (refine arU8 (by omega) (by omega) ?_; conv => whnf)))
                    refine ⟨j + 1, by omega, by omega, ?_⟩
                    rw [hcs]
                    (conv => whnf); (refine imp_auto hA ?_; conv => whnf); exact ⟨rfl, rfl, rfl, (by repeat' (first | exact trivial | exact rfl | apply And.intro)), (by repeat' (first | exact trivial | exact rfl | (intro _ _; exact rfl) | (intro _ hj; exact absurd hj (Nat.not_lt_zero _)) | exact Nat.le_refl _ | exact Or.inl (Or.inl (And.intro (fun h => h) rfl)) | exact Or.inl rfl | apply And.intro)), rfl⟩
                · have hp : pairB k t (okW h N) m i j = false := by
                    unfold pairB; rw [show decide (untilF (hitB k t (t j) 4 4) m (j + 1) < m) = false from decide_eq_false (by omega)]; simp
                  have hcs : cntF (pairB k t (okW h N) m i) i (j + 1) = cntF (pairB k t (okW h N) m i) i j := by rw [cntF, if_neg (by simp [hp])]; rfl
                  conv => whnf
                  (repeat' (first | (refine And.intro (by (first | omega | assumption | (simp only [nadd_eq]; omega) | (simp [nadd_eq]; omega))) ?_; conv => whnf) | (refine arI64 (by omega) (by omega) ?_; conv => whnf) | (refine arU32 (by omega) (by omega) ?_; conv => whnf) | (refine arU8 (by omega) (by omega) ?_; conv => whnf)))
                  refine ⟨j + 1, by omega, by omega, ?_⟩
                  rw [hcs]
                  (conv => whnf); (refine imp_auto hA ?_; conv => whnf); exact ⟨rfl, rfl, rfl, (by repeat' (first | exact trivial | exact rfl | apply And.intro)), (by repeat' (first | exact trivial | exact rfl | (intro _ _; exact rfl) | (intro _ hj; exact absurd hj (Nat.not_lt_zero _)) | exact Nat.le_refl _ | exact Or.inl (Or.inl (And.intro (fun h => h) rfl)) | exact Or.inl rfl | apply And.intro)), rfl⟩
          · obtain rfl : j = m := by omega
            conv => whnf
            (repeat' (first | (refine And.intro (by (first | omega | assumption | (simp only [nadd_eq]; omega) | (simp [nadd_eq]; omega))) ?_; conv => whnf) | (refine arI64 (by omega) (by omega) ?_; conv => whnf) | (refine arU32 (by omega) (by omega) ?_; conv => whnf) | (refine arU8 (by omega) (by omega) ?_; conv => whnf)))
            refine ⟨i + 1, by omega, by omega, ?_⟩
            rw [hsi]
            (conv => whnf); (refine imp_auto hA ?_; conv => whnf); exact ⟨rfl, rfl, rfl, (by repeat' (first | exact trivial | exact rfl | apply And.intro)), (by repeat' (first | exact trivial | exact rfl | (intro _ _; exact rfl) | (intro _ hj; exact absurd hj (Nat.not_lt_zero _)) | exact Nat.le_refl _ | exact Or.inl (Or.inl (And.intro (fun h => h) rfl)) | exact Or.inl rfl | apply And.intro)), rfl⟩
    · obtain rfl : i = m := by omega
      conv => whnf
      (refine fin_auto ?_; conv => whnf); exact ⟨rfl, rfl, rfl, rfl, (by repeat' (first | exact trivial | exact rfl | (intro _ _; exact rfl) | (intro _ hj; exact absurd hj (Nat.not_lt_zero _)) | exact Nat.le_refl _ | exact Or.inl (Or.inl (And.intro (fun h => h) rfl)) | exact Or.inl rfl | apply And.intro)), rfl⟩
theorem Overtakes_spec (k t a : Nat → Int) (b : Nat → Bool) (m : Nat) (hm : m ≤ 100) :
    FSpec Try.prog 20 [(0, some (.ro 4 m (entE k t a b)))] 1 [.l (.s 0 4 0 m 0)] fun r h' n => r = sInt .i64 ((sumF k t (fun _ _ => true) m m : Nat) : Int) ∧ n = 1 ∧ h' = [] := by
  have hp := pairsAll_spec k t a b m hm
  refine spec_of_ev Try.func20 ic20_eq (rs := [.t 2]) (by kernel_rfl) (by kernel_rfl) (by kernel_rfl) fun G hP hA => ?_
  unfold evF ic20
  conv => whnf
  (refine call_auto hP (hp) ?_; conv => whnf); (refine ⟨⟨rfl, rfl, rfl, (by repeat' (first | exact trivial | exact rfl | (intro _ _; exact rfl) | (intro _ hj; exact absurd hj (Nat.not_lt_zero _)) | exact Nat.le_refl _ | exact Or.inl (Or.inl (And.intro (fun h => h) rfl)) | exact Or.inl rfl | apply And.intro)), rfl, rfl⟩, ?_⟩; conv => whnf)
  (refine fin_auto ?_; conv => whnf); exact ⟨rfl, rfl, rfl, rfl, (by repeat' (first | exact trivial | exact rfl | (intro _ _; exact rfl) | (intro _ hj; exact absurd hj (Nat.not_lt_zero _)) | exact Nat.le_refl _ | exact Or.inl (Or.inl (And.intro (fun h => h) rfl)) | exact Or.inl rfl | apply And.intro)), rfl⟩
theorem Within_spec (h : Nat → Int) (N : Nat) (hN : N ≤ 1000) (k t a : Nat → Int) (b : Nat → Bool) (m : Nat) (hm : m ≤ 100) :
    FSpec Try.prog 21 [(0, some (.ro 1 N (numE h))), (1, some (.ro 4 m (entE k t a b)))] 2 [.l (.s 0 1 0 N 0), .l (.s 1 4 0 m 0)] fun r h' n => r = sInt .i64 ((sumF k t (okW h N) m m : Nat) : Int) ∧ n = 2 ∧ h' = [] := by
  have hp := pairsW_spec k t a b m hm h N hN
  refine spec_of_ev Try.func21 ic21_eq (rs := [.t 4]) (by kernel_rfl) (by kernel_rfl) (by kernel_rfl) fun G hP hA => ?_
  unfold evF ic21
  conv => whnf
  (refine call_auto hP (hp) ?_; conv => whnf); (refine ⟨⟨rfl, rfl, rfl, (by repeat' (first | exact trivial | exact rfl | (intro _ _; exact rfl) | (intro _ hj; exact absurd hj (Nat.not_lt_zero _)) | exact Nat.le_refl _ | exact Or.inl (Or.inl (And.intro (fun h => h) rfl)) | exact Or.inl rfl | apply And.intro)), rfl, rfl⟩, ?_⟩; conv => whnf)
  (refine fin_auto ?_; conv => whnf); exact ⟨rfl, rfl, rfl, rfl, (by repeat' (first | exact trivial | exact rfl | (intro _ _; exact rfl) | (intro _ hj; exact absurd hj (Nat.not_lt_zero _)) | exact Nat.le_refl _ | exact Or.inl (Or.inl (And.intro (fun h => h) rfl)) | exact Or.inl rfl | apply And.intro)), rfl⟩
def exK : Nat → Int
  | 0 => 1
  | 1 => 2
  | 2 => 1
  | 3 => 2
  | _ => 4
def exT : Nat → Int
  | 0 => 0
  | 1 => 0
  | _ => 1
theorem awake_spec : FSpec Try.prog 17 [] 0 [] fun x h n => x = sBool true ∧ n = 0 ∧ h = [] := by
  have h1 := Overtakes_spec exK exT (fun _ => 0) (fun _ => false) 5 (by omega)
  have h2 := Within_spec (fun i => (i : Int)) 2 (by omega) exK exT (fun _ => 0) (fun _ => false) 5 (by omega)
  have h3 := Depth3_spec (fun _ => 0) 1 0 0 0 0 0 0 (by omega) rfl
  rw [show sumF exK exT (fun _ _ => true) 5 5 = 1 by decide +kernel] at h1
  rw [show sumF exK exT (okW (fun i => (i : Int)) 2) 5 5 = 0 by decide +kernel] at h2
  refine spec_of_ev Try.func17 ic17_eq (rs := [.t 0]) (by kernel_rfl) (by kernel_rfl) (by kernel_rfl) fun G hP hA => ?_
  unfold evF ic17
  conv => whnf
  (refine call_auto hP (h1) ?_; conv => whnf); refine ⟨⟨rfl, rfl, rfl, ?_, rfl, rfl⟩, ?_⟩
  · refine ⟨⟨rfl, Nat.le_refl _, fun i hi => ?_⟩, trivial⟩
    rcases (show i = 0 ∨ i = 1 ∨ i = 2 ∨ i = 3 ∨ i = 4 by omega) with rfl | rfl | rfl | rfl | rfl <;> rfl
  conv => whnf
  (refine call_auto hP (h2) ?_; conv => whnf); refine ⟨⟨rfl, rfl, rfl, ?_, rfl, rfl⟩, ?_⟩
  · refine ⟨⟨rfl, Nat.le_refl _, fun i hi => ?_⟩, ⟨rfl, Nat.le_refl _, fun i hi => ?_⟩, trivial⟩
    · rcases (show i = 0 ∨ i = 1 by omega) with rfl | rfl <;> rfl
    · rcases (show i = 0 ∨ i = 1 ∨ i = 2 ∨ i = 3 ∨ i = 4 by omega) with rfl | rfl | rfl | rfl | rfl <;> rfl
  conv => whnf
  (refine call_auto hP (h3) ?_; conv => whnf); refine ⟨⟨rfl, rfl, rfl, ?_, rfl, rfl⟩, ?_⟩
  · refine ⟨⟨rfl, Nat.le_refl _, fun i hi => ?_⟩, trivial⟩
    obtain rfl : i = 0 := by omega
    rfl
  conv => whnf
  (refine fin_auto ?_; conv => whnf); refine ⟨rfl, rfl, rfl, bool_fin ?_, (by repeat' (first | exact trivial | exact rfl | (intro _ _; exact rfl) | (intro _ hj; exact absurd hj (Nat.not_lt_zero _)) | exact Nat.le_refl _ | exact Or.inl (Or.inl (And.intro (fun h => h) rfl)) | exact Or.inl rfl | apply And.intro)), rfl⟩
  rfl
end Go.Proofs.Ytmccmanekbiadaa
set_option linter.unusedSimpArgs false
set_option linter.unusedVariables false
namespace Go.Proofs.Ytmccmanekbiadaa
open Go Go.Sx

theorem none_spec (kind : Int) (m : Nat) (h : Nat → Int) (start : Nat) (slots pool budget glob loc : Int) (hs : start < 4294967296) :
    FSpec Try.prog 5 [(0, some (.ro 1 m (numE h)))] 1 [confA kind 0 m start slots pool budget glob loc] fun x h' k => x = sBool true := by
  have haw := awake_spec
  refine FSpec.mono (Q := fun x h' k => x = sBool true ∧ k = 1 ∧ h' = []) ?_ fun x h k hx => hx.1
  refine spec_of_ev Try.func5 ic5_eq (rs := [.t 2]) (by kernel_rfl) (by kernel_rfl) (by kernel_rfl) fun G hP hA => ?_
  unfold evF ic5
  conv => whnf
  refine dsplit (fun h1 => ?_) (fun h1 => ?_)
  · conv => whnf
    (refine call_auto hP (haw) ?_; conv => whnf); (refine ⟨⟨rfl, rfl, rfl, (by repeat' (first | exact trivial | exact rfl | (intro _ _; exact rfl) | (intro _ hj; exact absurd hj (Nat.not_lt_zero _)) | exact Nat.le_refl _ | exact Or.inl (Or.inl (And.intro (fun h => h) rfl)) | exact Or.inl rfl | apply And.intro)), rfl, rfl⟩, ?_⟩; conv => whnf)
    (refine fin_auto ?_; conv => whnf); exact ⟨rfl, rfl, rfl, rfl, (by repeat' (first | exact trivial | exact rfl | (intro _ _; exact rfl) | (intro _ hj; exact absurd hj (Nat.not_lt_zero _)) | exact Nat.le_refl _ | exact Or.inl (Or.inl (And.intro (fun h => h) rfl)) | exact Or.inl rfl | apply And.intro)), rfl⟩
  · replace h1 : ¬ 80 < (m : Int) := h1
    have hD := Depth_spec kind m h start slots pool budget glob loc (by omega) hs
    have hR := lawRef_spec kind m h start slots pool budget glob loc
    have hd := refDepth_spec kind m h start slots pool budget glob loc (by omega)
    conv => whnf
    (refine drawP_intro (by rw [hP]; exact follows) (by kernel_rfl) ?_; conv => whnf)
    (refine callD_auto hP (hD) ?_; conv => whnf); (refine ⟨⟨rfl, rfl, rfl, (by repeat' (first | exact trivial | exact rfl | (intro _ _; exact rfl) | (intro _ hj; exact absurd hj (Nat.not_lt_zero _)) | exact Nat.le_refl _ | exact Or.inl (Or.inl (And.intro (fun h => h) rfl)) | exact Or.inl rfl | apply And.intro)), rfl, rfl⟩, ?_⟩; conv => whnf)
    (refine callD_auto hP (hR) ?_; conv => whnf); (refine ⟨⟨rfl, rfl, rfl, (by repeat' (first | exact trivial | exact rfl | (intro _ _; exact rfl) | (intro _ hj; exact absurd hj (Nat.not_lt_zero _)) | exact Nat.le_refl _ | exact Or.inl (Or.inl (And.intro (fun h => h) rfl)) | exact Or.inl rfl | apply And.intro)), rfl, rfl⟩, ?_⟩; conv => whnf)
    (refine callD_auto hP (hd) ?_; conv => whnf); (refine ⟨⟨rfl, rfl, rfl, (by repeat' (first | exact trivial | exact rfl | (intro _ _; exact rfl) | (intro _ hj; exact absurd hj (Nat.not_lt_zero _)) | exact Nat.le_refl _ | exact Or.inl (Or.inl (And.intro (fun h => h) rfl)) | exact Or.inl rfl | apply And.intro)), rfl, rfl⟩, ?_⟩; conv => whnf)
    refine dsplit (fun h2 => ?_) (fun h2 => absurd (rfl : depthZ kind m h slots pool budget glob loc = depthZ kind m h slots pool budget glob loc) h2)
    conv => whnf
    (refine callD_auto hP (haw) ?_; conv => whnf); (refine ⟨⟨rfl, rfl, rfl, (by repeat' (first | exact trivial | exact rfl | (intro _ _; exact rfl) | (intro _ hj; exact absurd hj (Nat.not_lt_zero _)) | exact Nat.le_refl _ | exact Or.inl (Or.inl (And.intro (fun h => h) rfl)) | exact Or.inl rfl | apply And.intro)), rfl, rfl⟩, ?_⟩; conv => whnf)
    (repeat (refine And.intro (by (conv => whnf); first | exact ⟨rfl, rfl, rfl⟩ | (refine And.intro (by (first | omega | assumption | (simp only [nadd_eq]; omega) | (simp [nadd_eq]; omega))) ?_; (conv => whnf); exact ⟨rfl, rfl, rfl⟩)) ?_; conv => whnf))
    (refine fin_auto ?_; conv => whnf); exact ⟨rfl, rfl, rfl, rfl, (by repeat' (first | exact trivial | exact rfl | (intro _ _; exact rfl) | (intro _ hj; exact absurd hj (Nat.not_lt_zero _)) | exact Nat.le_refl _ | exact Or.inl (Or.inl (And.intro (fun h => h) rfl)) | exact Or.inl rfl | apply And.intro)), rfl⟩
end Go.Proofs.Ytmccmanekbiadaa
