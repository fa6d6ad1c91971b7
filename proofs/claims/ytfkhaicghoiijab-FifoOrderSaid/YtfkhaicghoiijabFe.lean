/- Fifo*: Take. -/
import Derived.Test.YtfkhaicghoiijabFd
set_option linter.unusedSimpArgs false
set_option linter.unusedVariables false
namespace Go.Proofs.Ytfkhaicghoiijab
open Go Go.Sx

theorem follows : Try.prog.follows .mixedOrders = true := by kernel_rfl
def tkOk (w : Nat) (S : Nat → Int) (Q : List Int) (k c : Int) (b : Bool) : Bool := decide (b = false ∧ 0 ≤ c ∧ c < w ∧ 0 ≤ nxt (S c.toNat) k ∧ (nxt (S c.toNat) k = 3 → Q.getD 0 0 = c ∧ ¬ 0 ≤ fstN S 3 w))
def tkS (w : Nat) (S : Nat → Int) (Q : List Int) (k c : Int) (b : Bool) : Nat → Int := fun i => if tkOk w S Q k c b = true ∧ i = c.toNat then nxt (S c.toNat) k else S i
def tkQ (w : Nat) (S : Nat → Int) (Q : List Int) (k c : Int) (b : Bool) : List Int := if tkOk w S Q k c b = true then (if S c.toNat = 2 then outN Q c Q.length else Q) ++ (if nxt (S c.toNat) k = 2 then [c] else []) else Q
def lockH (p q : Nat) (w : Nat) (S : Nat → Int) (Q : List Int) : Heap := [(0, some (.st [.s 1 1 0 w 0, .s p 1 0 Q.length 0])), (1, some (.ar 1 w (numE S))), (p, some (.ar 1 Q.length (intsZ Q)))]
theorem numE_step (S S' : Nat → Int) (j : Nat) (x : Int) (hS : ∀ i, S' i = if i = j then x else S i) (p : Nat) : mrgL (p = j) (setMany (numE S p) 0 [Value.int .i64 x]) (numE S p) = numE S' p := by
  rw [mrgL_eq _ _ _ (by rw [setMany_length])]
  have hs : setMany (numE S p) 0 [Value.int .i64 x] = [Value.int .i64 x] := rfl
  rw [hs]
  unfold numE
  rw [hS]
  by_cases h : p = j
  · rw [if_pos h, if_pos h]
  · rw [if_neg h, if_neg h]
set_option maxHeartbeats 4000000 in
theorem take_spec (w : Nat) (S : Nat → Int) (Q : List Int) (k c a : Int) (b : Bool) (hw : w ≤ 64) (hQ : Q.length ≤ 900) (hne : 0 ≤ c → c < w → S c.toNat = 2 → 0 < Q.length) :
    FSpec Try.prog 29 [(0, some (.st [.s 1 1 0 w 0, .s 2 1 0 Q.length 0])), (1, some (.ar 1 w (numE S))), (2, some (.ar 1 Q.length (intsZ Q)))] 3 [.l (.p 0 0 0 0), .a (entC k c a b)] fun x h n =>
      x = sBool (tkOk w S Q k c b) ∧ n = 4 ∧ h = [(0, some (.st [.s 1 1 0 w 0, .s 3 1 0 (tkQ w S Q k c b).length 0])), (1, some (.ar 1 w (numE (tkS w S Q k c b)))), (3, some (.ar 1 (tkQ w S Q k c b).length (intsZ (tkQ w S Q k c b))))] := by
  have hno : tkOk w S Q k c b = false → tkS w S Q k c b = S ∧ tkQ w S Q k c b = Q := fun h => ⟨by unfold tkS; simp [h], by unfold tkQ; simp [h]⟩
  obtain ⟨r, hr⟩ : ∃ r, r = tkOk w S Q k c b := ⟨_, rfl⟩
  rw [← hr] at hno ⊢
  obtain ⟨S', hS'⟩ : ∃ S', S' = tkS w S Q k c b := ⟨_, rfl⟩
  rw [← hS'] at hno ⊢
  obtain ⟨Q', hQ'⟩ : ∃ Q', Q' = tkQ w S Q k c b := ⟨_, rfl⟩
  rw [← hQ'] at hno ⊢
  have stop : r = false → ∀ {np : Nat} {h : Heap} {n : Nat}, True := fun _ => trivial
  refine spec_of_ev Try.func29 ic29_eq (rs := [.t 4]) (by kernel_rfl) (by kernel_rfl) (by kernel_rfl) fun G hP hA => ?_
  unfold evF ic29
  conv => whnf
  (refine drawP_intro (by rw [hP]; exact follows) (by kernel_rfl) ?_; conv => whnf)
  cases b with
  | true =>
    have hr0 : r = false := by rw [hr]; unfold tkOk; simp
    obtain ⟨rfl, rfl⟩ := hno hr0
    subst hr0
    conv => whnf
    (refine fin_auto ?_; conv => whnf); exact ⟨rfl, rfl, rfl, rfl, (by repeat' (first | exact trivial | exact rfl | (intro _ _; exact rfl) | (intro _ hj; exact absurd hj (Nat.not_lt_zero _)) | exact Nat.le_refl _ | exact Or.inl (And.intro (fun h => h) rfl) | apply And.intro)), rfl⟩
  | false =>
    conv => whnf
    refine dsplit (fun h1 => ?_) (fun h1 => ?_)
    · have hr0 : r = false := by rw [hr]; unfold tkOk; exact decide_eq_false fun h => by omega
      obtain ⟨rfl, rfl⟩ := hno hr0
      subst hr0
      conv => whnf
      (refine fin_auto ?_; conv => whnf); exact ⟨rfl, rfl, rfl, rfl, (by repeat' (first | exact trivial | exact rfl | (intro _ _; exact rfl) | (intro _ hj; exact absurd hj (Nat.not_lt_zero _)) | exact Nat.le_refl _ | exact Or.inl (And.intro (fun h => h) rfl) | apply And.intro)), rfl⟩
    · conv => whnf
      refine dsplit (fun h2 => ?_) (fun h2 => ?_)
      · have hr0 : r = false := by rw [hr]; unfold tkOk; exact decide_eq_false fun h => by omega
        obtain ⟨rfl, rfl⟩ := hno hr0
        subst hr0
        conv => whnf
        (refine fin_auto ?_; conv => whnf); exact ⟨rfl, rfl, rfl, rfl, (by repeat' (first | exact trivial | exact rfl | (intro _ _; exact rfl) | (intro _ hj; exact absurd hj (Nat.not_lt_zero _)) | exact Nat.le_refl _ | exact Or.inl (And.intro (fun h => h) rfl) | apply And.intro)), rfl⟩
      · obtain ⟨j, rfl⟩ : ∃ j : Nat, c = j := ⟨c.toNat, by omega⟩
        have hnx := next_spec (S j) k
        conv => whnf
        (refine drawP_intro (by rw [hP]; exact follows) (by kernel_rfl) ?_; conv => whnf)
        (repeat' (first | (refine And.intro (by (first | omega | assumption | (simp only [nadd_eq]; omega) | (simp [nadd_eq]; omega))) ?_; conv => whnf) | (refine arI64 (by omega) (by omega) ?_; conv => whnf) | (refine arU32 (by omega) (by omega) ?_; conv => whnf) | (refine arU8 (by omega) (by omega) ?_; conv => whnf)))
        (refine callD_auto hP (hnx) ?_; conv => whnf); (refine ⟨⟨rfl, rfl, rfl, (by repeat' (first | exact trivial | exact rfl | (intro _ _; exact rfl) | (intro _ hj; exact absurd hj (Nat.not_lt_zero _)) | exact Nat.le_refl _ | exact Or.inl (And.intro (fun h => h) rfl) | apply And.intro)), rfl, rfl⟩, ?_⟩; conv => whnf)
        have hx3 : nxt (S j) k = 3 → S j = 2 := by unfold nxt; (repeat' split) <;> omega
        have hx2 : nxt (S j) k = 2 → S j = 1 := by unfold nxt; (repeat' split) <;> omega
        have hct := contains_spec S 3 w (by omega)
        conv => whnf
        (repeat (refine And.intro (by (conv => whnf); first | exact ⟨rfl, rfl, rfl⟩ | (refine And.intro (by omega) ?_; (conv => whnf); exact ⟨rfl, rfl, rfl⟩)) ?_; conv => whnf))
        (refine drawP_intro (by rw [hP]; exact follows) (by kernel_rfl) ?_; conv => whnf)
        refine dsplit (fun h3 => ?_) (fun h3 => ?_)
        · have hr0 : r = false := by rw [hr]; unfold tkOk; exact decide_eq_false fun h => by simp only [Int.toNat_natCast] at h; omega
          obtain ⟨rfl, rfl⟩ := hno hr0
          subst hr0
          conv => whnf
          (repeat (refine And.intro (by (conv => whnf); first | exact ⟨rfl, rfl, rfl⟩ | (refine And.intro (by omega) ?_; (conv => whnf); exact ⟨rfl, rfl, rfl⟩)) ?_; conv => whnf))
          (refine fin_auto ?_; conv => whnf); exact ⟨rfl, rfl, rfl, rfl, (by repeat' (first | exact trivial | exact rfl | (intro _ _; exact rfl) | (intro _ hj; exact absurd hj (Nat.not_lt_zero _)) | exact Nat.le_refl _ | exact Or.inl (And.intro (fun h => h) rfl) | apply And.intro)), rfl⟩
        · conv => whnf
          refine dsplit (fun h4 => ?_) (fun h4 => ?_)
          · have h5 := hx3 h4
            have h6 := hne (by omega) (by omega) h5
            conv => whnf
            (repeat' (first | (refine And.intro (by (first | omega | assumption | (simp only [nadd_eq]; omega) | (simp [nadd_eq]; omega))) ?_; conv => whnf) | (refine arI64 (by omega) (by omega) ?_; conv => whnf) | (refine arU32 (by omega) (by omega) ?_; conv => whnf) | (refine arU8 (by omega) (by omega) ?_; conv => whnf)))
            refine dsplit (fun h7 => ?_) (fun h7 => ?_)
            · have hr0 : r = false := by rw [hr]; unfold tkOk; exact decide_eq_false fun h => by simp only [Int.toNat_natCast] at h; exact h7 (h.2.2.2.2 h4).1
              obtain ⟨rfl, rfl⟩ := hno hr0
              subst hr0
              conv => whnf
              (repeat (refine And.intro (by (conv => whnf); first | exact ⟨rfl, rfl, rfl⟩ | (refine And.intro (by omega) ?_; (conv => whnf); exact ⟨rfl, rfl, rfl⟩)) ?_; conv => whnf))
              (refine fin_auto ?_; conv => whnf); exact ⟨rfl, rfl, rfl, rfl, (by repeat' (first | exact trivial | exact rfl | (intro _ _; exact rfl) | (intro _ hj; exact absurd hj (Nat.not_lt_zero _)) | exact Nat.le_refl _ | exact Or.inl (And.intro (fun h => h) rfl) | apply And.intro)), rfl⟩
            · conv => whnf
              (refine callD_auto hP (hct) ?_; conv => whnf); (refine ⟨⟨rfl, rfl, rfl, (by repeat' (first | exact trivial | exact rfl | (intro _ _; exact rfl) | (intro _ hj; exact absurd hj (Nat.not_lt_zero _)) | exact Nat.le_refl _ | exact Or.inl (And.intro (fun h => h) rfl) | apply And.intro)), rfl, rfl⟩, ?_⟩; conv => whnf)
              refine dsplit (fun h8 => ?_) (fun h8 => ?_)
              · have hr0 : r = false := by rw [hr]; unfold tkOk; exact decide_eq_false fun h => by simp only [Int.toNat_natCast] at h; exact (h.2.2.2.2 h4).2 h8
                obtain ⟨rfl, rfl⟩ := hno hr0
                subst hr0
                conv => whnf
                (repeat (refine And.intro (by (conv => whnf); first | exact ⟨rfl, rfl, rfl⟩ | (refine And.intro (by omega) ?_; (conv => whnf); exact ⟨rfl, rfl, rfl⟩)) ?_; conv => whnf))
                (refine fin_auto ?_; conv => whnf); exact ⟨rfl, rfl, rfl, rfl, (by repeat' (first | exact trivial | exact rfl | (intro _ _; exact rfl) | (intro _ hj; exact absurd hj (Nat.not_lt_zero _)) | exact Nat.le_refl _ | exact Or.inl (And.intro (fun h => h) rfl) | apply And.intro)), rfl⟩
              · have hr1 : r = true := by rw [hr]; unfold tkOk; exact decide_eq_true ⟨rfl, by omega, by omega, by rw [Int.toNat_natCast]; omega, fun _ => ⟨Decidable.byContradiction fun hh => h7 hh, h8⟩⟩
                have hS : ∀ i, S' i = if i = j then nxt (S j) k else S i := fun i => by rw [hS']; unfold tkS; rw [← hr, hr1]; simp
                have hQ2 : Q' = outN Q j Q.length := by rw [hQ']; unfold tkQ; rw [← hr, hr1, if_pos rfl, Int.toNat_natCast, if_pos h5, if_neg (by omega), List.append_nil]
                have hdel := delete_spec k j a false Q (by omega)
                rw [hQ2, hr1]
                conv => whnf
                (repeat (refine And.intro (by (conv => whnf); first | exact ⟨rfl, rfl, rfl⟩ | (refine And.intro (by omega) ?_; (conv => whnf); exact ⟨rfl, rfl, rfl⟩)) ?_; conv => whnf))
                (refine join_plain ?_; conv => whnf)
                (refine drawP_intro (by rw [hP]; exact follows) (by kernel_rfl) ?_; conv => whnf)
                (repeat' (first | (refine And.intro (by (first | omega | assumption | (simp only [nadd_eq]; omega) | (simp [nadd_eq]; omega))) ?_; conv => whnf) | (refine arI64 (by omega) (by omega) ?_; conv => whnf) | (refine arU32 (by omega) (by omega) ?_; conv => whnf) | (refine arU8 (by omega) (by omega) ?_; conv => whnf)))
                refine dsplit (fun h9 => ?_) (fun h9 => absurd h5 h9)
                conv => whnf
                (refine call_auto hP (hdel) ?_; conv => whnf); (refine ⟨⟨rfl, rfl, rfl, (by repeat' (first | exact trivial | exact rfl | (intro _ _; exact rfl) | (intro _ hj; exact absurd hj (Nat.not_lt_zero _)) | exact Nat.le_refl _ | exact Or.inl (And.intro (fun h => h) rfl) | apply And.intro)), rfl, rfl⟩, ?_⟩; conv => whnf)
                (refine join_plain ?_; conv => whnf)
                refine dsplit (fun h10 => absurd h10 (by omega)) (fun h10 => ?_)
                conv => whnf
                (refine drawP_intro (by rw [hP]; exact follows) (by kernel_rfl) ?_; conv => whnf)
                (repeat' (first | (refine And.intro (by (first | omega | assumption | (simp only [nadd_eq]; omega) | (simp [nadd_eq]; omega))) ?_; conv => whnf) | (refine arI64 (by omega) (by omega) ?_; conv => whnf) | (refine arU32 (by omega) (by omega) ?_; conv => whnf) | (refine arU8 (by omega) (by omega) ?_; conv => whnf)))
                (refine fin_auto ?_; conv => whnf); refine ⟨rfl, rfl, rfl, ?_, ?_, rfl⟩
                · rfl
                · exact And.intro rfl (And.intro (And.intro rfl (And.intro rfl fun p hp => numE_step S S' j _ hS p)) (by repeat' (first | exact trivial | exact rfl | (intro _ _; exact rfl) | (intro _ hj; exact absurd hj (Nat.not_lt_zero _)) | exact Nat.le_refl _ | exact Or.inl (And.intro (fun h => h) rfl) | apply And.intro)))
          · have hr1 : r = true := by rw [hr]; unfold tkOk; exact decide_eq_true ⟨rfl, by omega, by omega, by rw [Int.toNat_natCast]; omega, fun h => absurd h h4⟩
            have hS : ∀ i, S' i = if i = j then nxt (S j) k else S i := fun i => by rw [hS']; unfold tkS; rw [← hr, hr1]; simp
            have hdel := delete_spec k j a false Q (by omega)
            rw [hr1]
            conv => whnf
            (repeat (refine And.intro (by (conv => whnf); first | exact ⟨rfl, rfl, rfl⟩ | (refine And.intro (by omega) ?_; (conv => whnf); exact ⟨rfl, rfl, rfl⟩)) ?_; conv => whnf))
            (refine join_plain ?_; conv => whnf)
            (refine drawP_intro (by rw [hP]; exact follows) (by kernel_rfl) ?_; conv => whnf)
            (repeat' (first | (refine And.intro (by (first | omega | assumption | (simp only [nadd_eq]; omega) | (simp [nadd_eq]; omega))) ?_; conv => whnf) | (refine arI64 (by omega) (by omega) ?_; conv => whnf) | (refine arU32 (by omega) (by omega) ?_; conv => whnf) | (refine arU8 (by omega) (by omega) ?_; conv => whnf)))
            refine dsplit (fun h9 => ?_) (fun h9 => ?_)
            · replace h9 : S j = 2 := h9
              have hQ2 : Q' = outN Q j Q.length := by rw [hQ']; unfold tkQ; rw [← hr, hr1, if_pos rfl, Int.toNat_natCast, if_pos h9, if_neg (by omega), List.append_nil]
              rw [hQ2]
              conv => whnf
              (refine call_auto hP (hdel) ?_; conv => whnf); (refine ⟨⟨rfl, rfl, rfl, (by repeat' (first | exact trivial | exact rfl | (intro _ _; exact rfl) | (intro _ hj; exact absurd hj (Nat.not_lt_zero _)) | exact Nat.le_refl _ | exact Or.inl (And.intro (fun h => h) rfl) | apply And.intro)), rfl, rfl⟩, ?_⟩; conv => whnf)
              (refine join_plain ?_; conv => whnf)
              refine dsplit (fun h10 => absurd h10 (by omega)) (fun h10 => ?_)
              conv => whnf
              (refine drawP_intro (by rw [hP]; exact follows) (by kernel_rfl) ?_; conv => whnf)
              (repeat' (first | (refine And.intro (by (first | omega | assumption | (simp only [nadd_eq]; omega) | (simp [nadd_eq]; omega))) ?_; conv => whnf) | (refine arI64 (by omega) (by omega) ?_; conv => whnf) | (refine arU32 (by omega) (by omega) ?_; conv => whnf) | (refine arU8 (by omega) (by omega) ?_; conv => whnf)))
              (refine fin_auto ?_; conv => whnf); refine ⟨rfl, rfl, rfl, ?_, ?_, rfl⟩
              · rfl
              · exact And.intro rfl (And.intro (And.intro rfl (And.intro rfl fun p hp => numE_step S S' j _ hS p)) (by repeat' (first | exact trivial | exact rfl | (intro _ _; exact rfl) | (intro _ hj; exact absurd hj (Nat.not_lt_zero _)) | exact Nat.le_refl _ | exact Or.inl (And.intro (fun h => h) rfl) | apply And.intro)))
            · replace h9 : ¬ S j = 2 := h9
              conv => whnf
              (refine join_plain ?_; conv => whnf)
              refine dsplit (fun h10 => ?_) (fun h10 => ?_)
              · have hQ2 : Q' = Q ++ [(j : Int)] := by rw [hQ']; unfold tkQ; rw [← hr, hr1, if_pos rfl, Int.toNat_natCast, if_neg h9, if_pos h10]
                rw [hQ2]
                conv => whnf
                (refine drawP_intro (by rw [hP]; exact follows) (by kernel_rfl) ?_; conv => whnf)
                (repeat' (first | (refine And.intro (by (first | omega | assumption | (simp only [nadd_eq]; omega) | (simp [nadd_eq]; omega))) ?_; conv => whnf) | (refine arI64 (by omega) (by omega) ?_; conv => whnf) | (refine arU32 (by omega) (by omega) ?_; conv => whnf) | (refine arU8 (by omega) (by omega) ?_; conv => whnf)))
                (repeat (refine And.intro (by (conv => whnf); first | exact ⟨rfl, rfl, rfl⟩ | (refine And.intro (by omega) ?_; (conv => whnf); exact ⟨rfl, rfl, rfl⟩)) ?_; conv => whnf))
                conv => whnf
                (refine drawP_intro (by rw [hP]; exact follows) (by kernel_rfl) ?_; conv => whnf)
                (repeat' (first | (refine And.intro (by (first | omega | assumption | (simp only [nadd_eq]; omega) | (simp [nadd_eq]; omega))) ?_; conv => whnf) | (refine arI64 (by omega) (by omega) ?_; conv => whnf) | (refine arU32 (by omega) (by omega) ?_; conv => whnf) | (refine arU8 (by omega) (by omega) ?_; conv => whnf)))
                have hql : (Q ++ [(j : Int)]).length = Q.length + 1 := by simp
                rw [hql]
                (refine fin_auto ?_; conv => whnf); refine ⟨rfl, rfl, rfl, ?_, ?_, rfl⟩
                · rfl
                · refine And.intro rfl (And.intro (And.intro rfl (And.intro rfl fun p hp => numE_step S S' j _ hS p)) (And.intro (And.intro rfl (And.intro rfl fun p hp => ?_)) (by repeat' (first | exact trivial | exact rfl | (intro _ _; exact rfl) | (intro _ hj; exact absurd hj (Nat.not_lt_zero _)) | exact Nat.le_refl _ | exact Or.inl (And.intro (fun h => h) rfl) | apply And.intro))))
                  exact intsZ_snoc Q j _ rfl p hp
              · have hQ2 : Q' = Q := by rw [hQ']; unfold tkQ; rw [← hr, hr1, if_pos rfl, Int.toNat_natCast, if_neg h9, if_neg h10, List.append_nil]
                rw [hQ2]
                conv => whnf
                (refine drawP_intro (by rw [hP]; exact follows) (by kernel_rfl) ?_; conv => whnf)
                (repeat' (first | (refine And.intro (by (first | omega | assumption | (simp only [nadd_eq]; omega) | (simp [nadd_eq]; omega))) ?_; conv => whnf) | (refine arI64 (by omega) (by omega) ?_; conv => whnf) | (refine arU32 (by omega) (by omega) ?_; conv => whnf) | (refine arU8 (by omega) (by omega) ?_; conv => whnf)))
                (refine fin_auto ?_; conv => whnf); refine ⟨rfl, rfl, rfl, ?_, ?_, rfl⟩
                · rfl
                · exact And.intro rfl (And.intro (And.intro rfl (And.intro rfl fun p hp => numE_step S S' j _ hS p)) (by repeat' (first | exact trivial | exact rfl | (intro _ _; exact rfl) | (intro _ hj; exact absurd hj (Nat.not_lt_zero _)) | exact Nat.le_refl _ | exact Or.inl (And.intro (fun h => h) rfl) | apply And.intro)))
end Go.Proofs.Ytfkhaicghoiijab
