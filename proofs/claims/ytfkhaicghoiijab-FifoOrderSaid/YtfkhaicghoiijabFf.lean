/- Fifo*: Check. -/
import Derived.Test.YtfkhaicghoiijabFe
set_option linter.unusedSimpArgs false
set_option linter.unusedVariables false
namespace Go.Proofs.Ytfkhaicghoiijab
open Go Go.Sx

def entE (k t a : Nat → Int) (b : Nat → Bool) : Nat → List Value := fun i => [.int .i64 (k i), .int .i64 (t i), .int .i64 (a i), .bool (b i)]
def lkN (w : Nat) (k t : Nat → Int) (b : Nat → Bool) : Nat → (Nat → Int) × List Int
  | 0 => (fun _ => 0, [])
  | i + 1 => (tkS w (lkN w k t b i).1 (lkN w k t b i).2 (k i) (t i) (b i), tkQ w (lkN w k t b i).1 (lkN w k t b i).2 (k i) (t i) (b i))
def okN (w : Nat) (k t : Nat → Int) (b : Nat → Bool) (i : Nat) : Bool := tkOk w (lkN w k t b i).1 (lkN w k t b i).2 (k i) (t i) (b i)
def cntN (p : Nat → Bool) : Nat → Nat
  | 0 => 0
  | i + 1 => if cntN p i < i then cntN p i else if p i = true then i + 1 else i
theorem cntN_le (p : Nat → Bool) : ∀ i, cntN p i ≤ i
  | 0 => Nat.le_refl _
  | i + 1 => by have := cntN_le p i; simp only [cntN]; (repeat' split) <;> omega
theorem cntN_stop (p : Nat → Bool) (i : Nat) (h : cntN p i = i) (hp : p i = false) : ∀ n, cntN p (i + 1 + n) = i
  | 0 => by show cntN p (i + 1) = i; simp only [cntN, hp, h]; simp
  | n + 1 => by
    have ih := cntN_stop p i h hp n
    show (if cntN p (i + 1 + n) < i + 1 + n then cntN p (i + 1 + n) else _) = i
    rw [ih, if_pos (by omega)]
theorem mem_outN (L : List Int) (c x : Int) (h : x ∈ L) (hne : x ≠ c) : x ∈ outN L c L.length := by
  rw [outN_eq L c L.length (Nat.le_refl _), List.take_length, List.mem_filter]
  exact ⟨h, decide_eq_true hne⟩
theorem outN_sub (L : List Int) (c x : Int) (h : x ∈ outN L c L.length) : x ∈ L ∧ x ≠ c := by
  rw [outN_eq L c L.length (Nat.le_refl _), List.take_length, List.mem_filter] at h
  exact ⟨h.1, of_decide_eq_true h.2⟩
theorem lk_len (w : Nat) (k t : Nat → Int) (b : Nat → Bool) : ∀ i, (lkN w k t b i).2.length ≤ i
  | 0 => Nat.le_refl _
  | i + 1 => by
    have ih := lk_len w k t b i
    have h2 := outN_len (lkN w k t b i).2 (t i) (lkN w k t b i).2.length
    simp only [lkN, tkQ]
    split
    · rw [List.length_append]
      have : ∀ (c : Prop) [Decidable c], (if c then [t i] else []).length ≤ 1 := fun c _ => by split <;> simp
      have := this (nxt ((lkN w k t b i).1 (t i).toNat) (k i) = 2)
      split <;> omega
    · omega
/-- Who waits stands in the queue. -/
theorem lk_in (w : Nat) (k t : Nat → Int) (b : Nat → Bool) : ∀ i, ∀ c : Nat, (lkN w k t b i).1 c = 2 → (c : Int) ∈ (lkN w k t b i).2
  | 0, c, h => by simp [lkN] at h
  | i + 1, c, h => by
    have ih := lk_in w k t b i
    generalize hp : lkN w k t b i = p at *
    simp only [lkN, hp, tkS] at h
    simp only [lkN, hp, tkQ]
    by_cases hok : tkOk w p.1 p.2 (k i) (t i) (b i) = true
    · rw [if_pos hok]
      have ht : 0 ≤ t i := (of_decide_eq_true hok).2.1
      by_cases hc : c = (t i).toNat
      · rw [if_pos ⟨hok, hc⟩] at h
        rw [if_pos h]
        have : (c : Int) = t i := by omega
        simp [this]
      · rw [if_neg fun hh => hc hh.2] at h
        have hm := ih c h
        refine List.mem_append.2 (.inl ?_)
        split
        · exact mem_outN _ _ _ hm (by omega)
        · exact hm
    · rw [if_neg fun hh => hok hh.1] at h
      rw [if_neg hok]
      exact ih c h
theorem pair_fin {l : Nat → Nat} {a b : Int} {x y : Bool} (h1 : a = b) (h2 : x = y) : packR ([] ++ [AV.l (LV.v (Value.int .i64 a))] ++ [AV.l (LV.v (Value.bool x))]) = SV.ren l (.t [.l (.v (.int .i64 b)), .l (.v (.bool y))]) := by subst h1; subst h2; rfl
set_option maxHeartbeats 1000000 in
theorem check_spec (n : Int) (w : Nat) (hw : clamp n = w) (hw2 : w ≤ 64) (k t a : Nat → Int) (b : Nat → Bool) (m : Nat) (hm : m ≤ 900) :
    FSpec Try.prog 22 [(0, some (.ro 4 m (entE k t a b)))] 1 [.l (.v (.int .i64 n)), .l (.s 0 4 0 m 0)] fun x h j =>
      x = .t [.l (.v (.int .i64 (cntN (okN w k t b) m : Int))), .l (.v (.bool (decide (cntN (okN w k t b) m = m))))] ∧ j = 1 ∧ h = [] := by
  have hnw := new_spec n w hw hw2
  refine spec_of_ev Try.func22 ic22_eq (rs := [.t 4, .t 5]) (by kernel_rfl) (by kernel_rfl) (by kernel_rfl) fun G hP hA => ?_
  unfold evF ic22
  conv => whnf
  (refine call_auto hP (hnw) ?_; conv => whnf); (refine ⟨⟨rfl, rfl, rfl, (by repeat' (first | exact trivial | exact rfl | (intro _ _; exact rfl) | (intro _ hj; exact absurd hj (Nat.not_lt_zero _)) | exact Nat.le_refl _ | exact Or.inl (And.intro (fun h => h) rfl) | apply And.intro)), rfl, rfl⟩, ?_⟩; conv => whnf)
  refine loop_auto (α := Nat) (ds := []) (N := 4) (fun i => [(13, sInt .i64 (i : Int))]) [] (fun i => [(1, some (.st [.s 2 1 0 w 0, .s 3 1 0 (lkN w k t b i).2.length 0])), (2, some (.ar 1 w (numE (lkN w k t b i).1))), (3, some (.ar 1 (lkN w k t b i).2.length (intsZ (lkN w k t b i).2)))])
    (fun i => i ≤ m ∧ cntN (okN w k t b) i = i) (fun i => m - i) 0 ⟨Nat.zero_le _, rfl⟩ ?_ fun i hi => ?_
  · (conv => whnf); (refine imp_auto hA ?_; conv => whnf); exact ⟨rfl, rfl, rfl, (by repeat' (first | exact trivial | exact rfl | apply And.intro)), (by repeat' (first | exact trivial | exact rfl | (intro _ _; exact rfl) | (intro _ hj; exact absurd hj (Nat.not_lt_zero _)) | exact Nat.le_refl _ | exact Or.inl (And.intro (fun h => h) rfl) | apply And.intro)), rfl⟩
  · obtain ⟨hi, hct⟩ := hi
    have hln := lk_len w k t b i
    have hin := lk_in w k t b i
    have htk := take_spec w (lkN w k t b i).1 (lkN w k t b i).2 (k i) (t i) (a i) (b i) hw2 (by omega) (fun h0 h1 h2 => by
      have := hin _ h2
      exact List.length_pos_of_mem this)
    conv => whnf
    refine dsplit (fun h1 => ?_) (fun h1 => ?_)
    · conv => whnf
      (repeat' (first | (refine And.intro (by (first | omega | assumption | (simp only [nadd_eq]; omega) | (simp [nadd_eq]; omega))) ?_; conv => whnf) | (refine arI64 (by omega) (by omega) ?_; conv => whnf) | (refine arU32 (by omega) (by omega) ?_; conv => whnf) | (refine arU8 (by omega) (by omega) ?_; conv => whnf)))
      (refine call_auto hP (htk) ?_; conv => whnf); (refine ⟨⟨rfl, rfl, rfl, (by repeat' (first | exact trivial | exact rfl | (intro _ _; exact rfl) | (intro _ hj; exact absurd hj (Nat.not_lt_zero _)) | exact Nat.le_refl _ | exact Or.inl (And.intro (fun h => h) rfl) | apply And.intro)), rfl, rfl⟩, ?_⟩; conv => whnf)
      refine nbsplit (fun h3 => ?_) (fun h3 => ?_)
      · conv => whnf
        have hc2 : cntN (okN w k t b) m = i := by
          obtain ⟨d, hd⟩ : ∃ d, m = i + 1 + d := ⟨m - (i + 1), by omega⟩
          rw [hd]; exact cntN_stop _ i hct h3 d
        (refine fin_auto ?_; conv => whnf); refine ⟨rfl, rfl, rfl, ?_, ?_, rfl⟩
        · exact pair_fin (by rw [hc2]) (by rw [hc2]; exact (decide_eq_false (by omega)).symm)
        · exact (by repeat' (first | exact trivial | exact rfl | (intro _ _; exact rfl) | (intro _ hj; exact absurd hj (Nat.not_lt_zero _)) | exact Nat.le_refl _ | exact Or.inl (And.intro (fun h => h) rfl) | apply And.intro))
      · have hl : lkN w k t b (i + 1) = (tkS w (lkN w k t b i).1 (lkN w k t b i).2 (k i) (t i) (b i), tkQ w (lkN w k t b i).1 (lkN w k t b i).2 (k i) (t i) (b i)) := rfl
        have hc2 : cntN (okN w k t b) (i + 1) = i + 1 := by
          have h4 : okN w k t b i = true := h3
          simp only [cntN, hct, h4]; simp
        conv => whnf
        (repeat' (first | (refine And.intro (by (first | omega | assumption | (simp only [nadd_eq]; omega) | (simp [nadd_eq]; omega))) ?_; conv => whnf) | (refine arI64 (by omega) (by omega) ?_; conv => whnf) | (refine arU32 (by omega) (by omega) ?_; conv => whnf) | (refine arU8 (by omega) (by omega) ?_; conv => whnf)))
        refine ⟨i + 1, ⟨by omega, hc2⟩, by omega, ?_⟩
        rw [hl]
        (conv => whnf); (refine imp_auto hA ?_; conv => whnf); exact ⟨rfl, rfl, rfl, (by repeat' (first | exact trivial | exact rfl | apply And.intro)), (by repeat' (first | exact trivial | exact rfl | (intro _ _; exact rfl) | (intro _ hj; exact absurd hj (Nat.not_lt_zero _)) | exact Nat.le_refl _ | exact Or.inl (And.intro (fun h => h) rfl) | apply And.intro)), rfl⟩
    · obtain rfl : i = m := by omega
      conv => whnf
      (refine fin_auto ?_; conv => whnf); refine ⟨rfl, rfl, rfl, ?_, ?_, rfl⟩
      · exact pair_fin (by rw [hct]) (by rw [hct]; exact (decide_eq_true rfl).symm)
      · exact (by repeat' (first | exact trivial | exact rfl | (intro _ _; exact rfl) | (intro _ hj; exact absurd hj (Nat.not_lt_zero _)) | exact Nat.le_refl _ | exact Or.inl (And.intro (fun h => h) rfl) | apply And.intro))
end Go.Proofs.Ytfkhaicghoiijab
