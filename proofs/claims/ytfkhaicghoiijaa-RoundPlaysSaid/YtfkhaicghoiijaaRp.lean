/- RoundPlays: the document's answer, the walk, and the law. -/
import Derived.Test.YtfkhaicghoiijaaRf
namespace Go.Proofs.Ytfkhaicghoiijaa
open Go Go.Sx

theorem owed_filter (ow p : Nat → Bool) : ∀ n, (owed ow n).filter p = owed (fun t => ow t && p t) n
  | 0 => rfl
  | n + 1 => by
    simp only [owed]
    by_cases h1 : ow n = true <;> by_cases h2 : p n = true <;> simp [h1, h2, owed_filter ow p n]
theorem owed_congr {f g : Nat → Bool} : ∀ {n}, (∀ i, i < n → f i = g i) → owed f n = owed g n
  | 0, _ => rfl
  | n + 1, h => by simp only [owed, h n (Nat.lt_succ_self n), owed_congr fun i hi => h i (Nat.lt_succ_of_lt hi)]
theorem owed_mem {ow : Nat → Bool} : ∀ {n t}, t ∈ owed ow n → t < n ∧ ow t = true
  | 0, t, h => by cases h
  | n + 1, t, h => by
    simp only [owed] at h
    split at h
    · rename_i hn
      rcases List.mem_append.1 h with h | h
      · exact ⟨Nat.lt_succ_of_lt (owed_mem h).1, (owed_mem h).2⟩
      · simp at h; subst h; exact ⟨Nat.lt_succ_self _, hn⟩
    · exact ⟨Nat.lt_succ_of_lt (owed_mem h).1, (owed_mem h).2⟩
theorem owed_cnt (ow : Nat → Bool) : ∀ n, (owed ow n).length = cnt ow n
  | 0 => rfl
  | n + 1 => by simp only [owed, cnt]; cases ow n <;> simp [owed_cnt ow n]
/-- One number more at the end. -/
theorem intsE_snoc (l : List Nat) (x : Nat) (g : Nat → List Value) (hg : g 0 = [.int .i64 (x : Int)]) : ∀ j, j < l.length + 1 → (if j < l.length then intsE l j else g (j - l.length)) = intsE (l ++ [x]) j := fun j hj => by
  by_cases h : j < l.length
  · simp [h, intsE, List.getElem?_append_left h]
  · obtain rfl : j = l.length := by omega
    simp [intsE, hg]
def refKeep (picked : Int) (nb : Nat) (busy : Nat → Bool) (t : Nat) : Bool := !decide ((t : Int) = picked) && isb nb busy t
theorem refKeep_owed (picked : Int) (nb : Nat) (busy ow : Nat → Bool) (n : Nat) : (owed ow n).filter (refKeep picked nb busy) = owed (kept picked nb busy ow) n := by
  rw [owed_filter]; rfl
def pre2 (nb : Nat) (busy : Nat → Bool) (i t : Nat) : Bool := decide (t < i) && isb nb busy t
def refF (l : List Nat) (p : Nat → Bool) (i : Nat) : List Nat := (l.take i).filter p
theorem refF_le (l : List Nat) (p : Nat → Bool) (i : Nat) : (refF l p i).length ≤ l.length := Nat.le_trans (List.length_filter_le _ _) (by simp; omega)
theorem refF_succ {l : List Nat} {p : Nat → Bool} {i : Nat} (h : i < l.length) : refF l p (i + 1) = if p (l.getD i 0) then refF l p i ++ [l.getD i 0] else refF l p i := by
  unfold refF
  rw [List.take_succ_eq_append_getElem h, List.filter_append]
  have : l.getD i 0 = l[i] := by simp [h]
  rw [this]
  by_cases hp : p l[i] <;> simp [hp]
theorem refF_all (l : List Nat) (p : Nat → Bool) : refF l p l.length = l.filter p := by simp [refF]
theorem owed_stop {f : Nat → Bool} {i : Nat} : ∀ {n}, i ≤ n → (∀ t, i ≤ t → t < n → f t = false) → owed f n = owed f i
  | 0, hi, _ => by obtain rfl : i = 0 := by omega
                   rfl
  | n + 1, hi, h => by
    by_cases e : i = n + 1
    · subst e; rfl
    · simp only [owed, h n (by omega) (Nat.lt_succ_self n), Bool.false_eq_true, if_false]
      exact owed_stop (i := i) (n := n) (by omega) fun t h1 h2 => h t h1 (Nat.lt_succ_of_lt h2)
theorem refTake_spec (n : Nat) (ow : Nat → Bool) (count picked : Int) (nb : Nat) (busy : Nat → Bool) (hn : n ≤ 64) (hc0 : 0 ≤ count) (hc1 : count ≤ 1000000) :
    FSpec Try.prog 17 [(0, some (.ro 1 (owed ow n).length (intsE (owed ow n)))), (1, some (.ro 1 nb fun i => [.bool (busy i)]))] 2
      [.a [.s 0 1 0 (owed ow n).length 0, .v (.int .i64 count)], .l (.v (.int .i64 n)), .l (.s 1 1 0 nb 0), .l (.v (.int .i64 picked))] fun x h m =>
      x = .o (.a [.s 2 1 0 (owed (after n picked nb busy ow) n).length 0, .v (.int .i64 (count + tb (ended n picked nb busy ow)))]) ∧ m = 3 ∧ h = [(2, some (.ar 1 (owed (after n picked nb busy ow) n).length (intsE (owed (after n picked nb busy ow) n))))] := by
  refine spec_of_ev Try.func17 ic17_eq (rs := [.ca 8 2]) (by kernel_rfl) (by kernel_rfl) (by kernel_rfl) fun G hP hA => ?_
  obtain ⟨l, hl⟩ : ∃ l, l = owed ow n := ⟨_, rfl⟩
  have hll : l.length ≤ 64 := by rw [hl]; exact Nat.le_trans (owed_len ow n) hn
  have hlm : ∀ i, i < l.length → l.getD i 0 < n := fun i hi => by
    have : l.getD i 0 ∈ l := by simp [hi]
    rw [hl] at this ⊢
    exact (owed_mem this).1
  rw [← hl]
  unfold evF ic17
  conv => whnf
  refine loop_auto (α := Nat) (ds := []) (N := 5) (fun i => [(9, .o (.l (.s 4 1 0 (refF l (refKeep picked nb busy) i).length 0))), (16, sInt .i64 (i : Int))]) [] (fun i => [(4, some (.ar 1 (refF l (refKeep picked nb busy) i).length (intsE (refF l (refKeep picked nb busy) i))))])
    (fun i => i ≤ l.length) (fun i => l.length - i) 0 (Nat.zero_le _) ?_ fun i hi => ?_
  · conv => whnf
    refine Imp.trans (imp_nil 9 1 (fun _ => []) rfl) ?_
    (conv => whnf); (refine imp_auto hA ?_; conv => whnf); exact ⟨rfl, rfl, rfl, (by repeat' (first | exact trivial | exact rfl | apply And.intro)), (by repeat' (first | exact trivial | exact rfl | (intro _ _; exact rfl) | (intro _ hj; exact absurd hj (Nat.not_lt_zero _)) | exact Nat.le_refl _ | exact Or.inl (And.intro (fun h => h) rfl) | apply And.intro)), rfl⟩
  · conv => whnf
    refine dsplit (fun h1 => ?_) (fun h1 => ?_)
    · have hil : i < l.length := by omega
      obtain ⟨x, hx⟩ : ∃ x, x = l.getD i 0 := ⟨_, rfl⟩
      have hxn : x < n := by rw [hx]; exact hlm i hil
      have hF := refF_succ (p := refKeep picked nb busy) hil
      have hFl := refF_le l (refKeep picked nb busy) i
      rw [← hx] at hF
      conv => whnf
      refine join_auto (α := Unit) (ds := []) (N := 5) (fun _ => [(9, .o (.l (.s 4 1 0 (refF l (refKeep picked nb busy) (i + 1)).length 0)))]) [] (fun _ => [(4, some (.ar 1 (refF l (refKeep picked nb busy) (i + 1)).length (intsE (refF l (refKeep picked nb busy) (i + 1)))))])
        (fun _ => True) ?_ fun _ _ => ?_
      · conv => whnf
        (repeat' (first | (refine And.intro (by (first | omega | (simp only [nadd_eq]; omega) | (simp [nadd_eq]; omega))) ?_; conv => whnf) | (refine arI64 (by omega) (by omega) ?_; conv => whnf) | (refine arU32 (by omega) (by omega) ?_; conv => whnf) | (refine arU8 (by omega) (by omega) ?_; conv => whnf)))
        have hxe : l.getD (nadd 0 (i : Int).toNat) 0 = x := by rw [hx]; simp [nadd_eq]
        rw [hxe]
        refine dsplit (fun h2 => ?_) (fun h2 => ?_)
        · conv => whnf
          refine dsplit (fun h3 => ?_) (fun h3 => ?_)
          · conv => whnf
            (repeat' (first | (refine And.intro (by (first | omega | (simp only [nadd_eq]; omega) | (simp [nadd_eq]; omega))) ?_; conv => whnf) | (refine arI64 (by omega) (by omega) ?_; conv => whnf) | (refine arU32 (by omega) (by omega) ?_; conv => whnf) | (refine arU8 (by omega) (by omega) ?_; conv => whnf)))
            refine bsplit (fun h4 => ?_) (fun h4 => ?_)
            · have h4' : busy x = true := by simpa [nadd_eq] using h4
              have hp : refKeep picked nb busy x = true := by simp [refKeep, isb, h2, h3, h4']
              rw [hp] at hF
              simp only [if_true] at hF
              have hlen : (refF l (refKeep picked nb busy) (i + 1)).length = (refF l (refKeep picked nb busy) i).length + 1 := by rw [hF]; simp
              conv => whnf
              (repeat' (first | (refine And.intro (by (first | omega | (simp only [nadd_eq]; omega) | (simp [nadd_eq]; omega))) ?_; conv => whnf) | (refine arI64 (by omega) (by omega) ?_; conv => whnf) | (refine arU32 (by omega) (by omega) ?_; conv => whnf) | (refine arU8 (by omega) (by omega) ?_; conv => whnf)))
              refine ⟨(), trivial, ?_⟩
              rw [hlen]
              (conv => whnf); (refine imp_auto hA ?_; conv => whnf); refine ⟨rfl, rfl, rfl, (by repeat' (first | exact trivial | exact rfl | apply And.intro)), ?_, rfl⟩
              refine And.intro (And.intro rfl (And.intro rfl fun j hj => ?_)) (by repeat' (first | exact trivial | exact rfl | (intro _ _; exact rfl) | (intro _ hj; exact absurd hj (Nat.not_lt_zero _)) | exact Nat.le_refl _ | exact Or.inl (And.intro (fun h => h) rfl) | apply And.intro))
              rw [hF]
              exact intsE_snoc _ x _ rfl j hj
            · have h4' : busy x = false := by simpa [nadd_eq] using h4
              have hp : refKeep picked nb busy x = false := by simp [refKeep, isb, h4']
              rw [hp] at hF
              simp only [Bool.false_eq_true, if_false] at hF
              conv => whnf
              refine ⟨(), trivial, ?_⟩
              rw [hF]
              (conv => whnf); (refine imp_auto hA ?_; conv => whnf); exact ⟨rfl, rfl, rfl, (by repeat' (first | exact trivial | exact rfl | apply And.intro)), (by repeat' (first | exact trivial | exact rfl | (intro _ _; exact rfl) | (intro _ hj; exact absurd hj (Nat.not_lt_zero _)) | exact Nat.le_refl _ | exact Or.inl (And.intro (fun h => h) rfl) | apply And.intro)), rfl⟩
          · have hp : refKeep picked nb busy x = false := by simp [refKeep, isb, h3]
            rw [hp] at hF
            simp only [Bool.false_eq_true, if_false] at hF
            conv => whnf
            refine ⟨(), trivial, ?_⟩
            rw [hF]
            (conv => whnf); (refine imp_auto hA ?_; conv => whnf); exact ⟨rfl, rfl, rfl, (by repeat' (first | exact trivial | exact rfl | apply And.intro)), (by repeat' (first | exact trivial | exact rfl | (intro _ _; exact rfl) | (intro _ hj; exact absurd hj (Nat.not_lt_zero _)) | exact Nat.le_refl _ | exact Or.inl (And.intro (fun h => h) rfl) | apply And.intro)), rfl⟩
        · have hp : refKeep picked nb busy x = false := by simp [refKeep]; intro h; exact absurd h h2
          rw [hp] at hF
          simp only [Bool.false_eq_true, if_false] at hF
          conv => whnf
          refine ⟨(), trivial, ?_⟩
          rw [hF]
          (conv => whnf); (refine imp_auto hA ?_; conv => whnf); exact ⟨rfl, rfl, rfl, (by repeat' (first | exact trivial | exact rfl | apply And.intro)), (by repeat' (first | exact trivial | exact rfl | (intro _ _; exact rfl) | (intro _ hj; exact absurd hj (Nat.not_lt_zero _)) | exact Nat.le_refl _ | exact Or.inl (And.intro (fun h => h) rfl) | apply And.intro)), rfl⟩
      · conv => whnf
        (repeat' (first | (refine And.intro (by (first | omega | (simp only [nadd_eq]; omega) | (simp [nadd_eq]; omega))) ?_; conv => whnf) | (refine arI64 (by omega) (by omega) ?_; conv => whnf) | (refine arU32 (by omega) (by omega) ?_; conv => whnf) | (refine arU8 (by omega) (by omega) ?_; conv => whnf)))
        refine ⟨i + 1, by omega, by omega, ?_⟩
        (conv => whnf); (refine imp_auto hA ?_; conv => whnf); exact ⟨rfl, rfl, rfl, (by repeat' (first | exact trivial | exact rfl | apply And.intro)), (by repeat' (first | exact trivial | exact rfl | (intro _ _; exact rfl) | (intro _ hj; exact absurd hj (Nat.not_lt_zero _)) | exact Nat.le_refl _ | exact Or.inl (And.intro (fun h => h) rfl) | apply And.intro)), rfl⟩
    · obtain rfl : i = l.length := by omega
      rw [refF_all, hl, refKeep_owed]
      obtain ⟨K1, hK1⟩ : ∃ K1, K1 = owed (kept picked nb busy ow) n := ⟨_, rfl⟩
      have hK1l : K1.length ≤ 64 := by rw [hK1]; exact Nat.le_trans (owed_len _ n) hn
      have hK1c : K1.length = cnt (kept picked nb busy ow) n := by rw [hK1, owed_cnt]
      have hlc : l.length = cnt ow n := by rw [hl, owed_cnt]
      rw [← hK1, ← hl]
      obtain ⟨e, he⟩ : ∃ e, e = ended n picked nb busy ow := ⟨_, rfl⟩
      have he' : e = (decide (0 < l.length) && decide (K1.length = 0)) := by rw [he, hlc, hK1c]; rfl
      rw [← he]
      conv => whnf
      refine join_auto (α := Unit) (ds := []) (N := 5) (fun _ => []) [] (fun _ => [(2, some (.st [.s 0 1 0 l.length 0, .v (.int .i64 (count + tb e))]))]) (fun _ => True) ?_ fun _ _ => ?_
      · conv => whnf
        refine dsplit (fun h2 => ?_) (fun h2 => ?_)
        · conv => whnf
          refine dsplit (fun h3 => ?_) (fun h3 => ?_)
          · have hce : count + tb e = count + 1 := by rw [he', decide_eq_true (show 0 < l.length by omega), decide_eq_true (show K1.length = 0 by omega)]; rfl
            conv => whnf
            (repeat' (first | (refine And.intro (by (first | omega | (simp only [nadd_eq]; omega) | (simp [nadd_eq]; omega))) ?_; conv => whnf) | (refine arI64 (by omega) (by omega) ?_; conv => whnf) | (refine arU32 (by omega) (by omega) ?_; conv => whnf) | (refine arU8 (by omega) (by omega) ?_; conv => whnf)))
            refine ⟨(), trivial, ?_⟩
            rw [hce]
            (conv => whnf); (refine imp_auto hA ?_; conv => whnf); exact ⟨rfl, rfl, rfl, (by repeat' (first | exact trivial | exact rfl | apply And.intro)), (by repeat' (first | exact trivial | exact rfl | (intro _ _; exact rfl) | (intro _ hj; exact absurd hj (Nat.not_lt_zero _)) | exact Nat.le_refl _ | exact Or.inl (And.intro (fun h => h) rfl) | apply And.intro)), rfl⟩
          · have hce : count + tb e = count := by rw [he', decide_eq_false (show ¬ K1.length = 0 by omega)]; simp [tb]
            conv => whnf
            refine ⟨(), trivial, ?_⟩
            rw [hce]
            (conv => whnf); (refine imp_auto hA ?_; conv => whnf); exact ⟨rfl, rfl, rfl, (by repeat' (first | exact trivial | exact rfl | apply And.intro)), (by repeat' (first | exact trivial | exact rfl | (intro _ _; exact rfl) | (intro _ hj; exact absurd hj (Nat.not_lt_zero _)) | exact Nat.le_refl _ | exact Or.inl (And.intro (fun h => h) rfl) | apply And.intro)), rfl⟩
        · have hce : count + tb e = count := by rw [he', decide_eq_false (show ¬ 0 < l.length by omega)]; simp [tb]
          conv => whnf
          refine ⟨(), trivial, ?_⟩
          rw [hce]
          (conv => whnf); (refine imp_auto hA ?_; conv => whnf); exact ⟨rfl, rfl, rfl, (by repeat' (first | exact trivial | exact rfl | apply And.intro)), (by repeat' (first | exact trivial | exact rfl | (intro _ _; exact rfl) | (intro _ hj; exact absurd hj (Nat.not_lt_zero _)) | exact Nat.le_refl _ | exact Or.inl (And.intro (fun h => h) rfl) | apply And.intro)), rfl⟩
      · have hte0 : 0 ≤ tb e := by cases e <;> decide
        have hte1 : tb e ≤ 1 := by cases e <;> decide
        obtain ⟨L, hL⟩ : ∃ L, L = owed (after n picked nb busy ow) n := ⟨_, rfl⟩
        rw [← hL]
        conv => whnf
        refine join_auto (α := Unit) (ds := [53]) (N := 5) (fun _ => [(9, .o (.l (.s 4 1 0 L.length 0)))]) [] (fun _ => [(4, some (.ar 1 L.length (intsE L)))]) (fun _ => True) ?_ fun _ _ => ?_
        · conv => whnf
          refine dsplit (fun h2 => ?_) (fun h2 => ?_)
          · have hk0 : cnt (kept picked nb busy ow) n = 0 := by omega
            have hLi : L = owed (isb nb busy) n := by
              rw [hL]; exact owed_congr fun t ht => by simp only [after, hk0, if_true]
            have hstop : ∀ i, i ≤ n → (¬ (i : Int) < n ∨ ¬ (i : Int) < nb) → owed (isb nb busy) i = L := fun i hi hh => by
              rw [hLi]
              exact (owed_stop hi fun t h3 h4 => by simp [isb]; omega).symm
            conv => whnf
            refine loop_auto (α := Nat) (ds := [53]) (N := 5) (fun i => [(9, .o (.l (.s 4 1 0 (owed (isb nb busy) i).length 0))), (12, sInt .i64 (i : Int))]) [] (fun i => [(4, some (.ar 1 (owed (isb nb busy) i).length (intsE (owed (isb nb busy) i))))])
              (fun i => i ≤ n) (fun i => n - i) 0 (Nat.zero_le _) ?_ fun i hi => ?_
            · have hz : K1.length = 0 := by omega
              rw [hz]
              (conv => whnf); (refine imp_auto hA ?_; conv => whnf); exact ⟨rfl, rfl, rfl, (by repeat' (first | exact trivial | exact rfl | apply And.intro)), (by repeat' (first | exact trivial | exact rfl | (intro _ _; exact rfl) | (intro _ hj; exact absurd hj (Nat.not_lt_zero _)) | exact Nat.le_refl _ | exact Or.inl (And.intro (fun h => h) rfl) | apply And.intro)), rfl⟩
            · have hoi := owed_len (isb nb busy) i
              conv => whnf
              refine dsplit (fun h3 => ?_) (fun h3 => ?_)
              · conv => whnf
                refine dsplit (fun h4 => ?_) (fun h4 => ?_)
                · conv => whnf
                  refine join_auto (α := Unit) (ds := []) (N := 5) (fun _ => [(9, .o (.l (.s 4 1 0 (owed (isb nb busy) (i + 1)).length 0)))]) [] (fun _ => [(4, some (.ar 1 (owed (isb nb busy) (i + 1)).length (intsE (owed (isb nb busy) (i + 1)))))]) (fun _ => True) ?_ fun _ _ => ?_
                  · conv => whnf
                    (repeat' (first | (refine And.intro (by (first | omega | (simp only [nadd_eq]; omega) | (simp [nadd_eq]; omega))) ?_; conv => whnf) | (refine arI64 (by omega) (by omega) ?_; conv => whnf) | (refine arU32 (by omega) (by omega) ?_; conv => whnf) | (refine arU8 (by omega) (by omega) ?_; conv => whnf)))
                    refine bsplit (fun h5 => ?_) (fun h5 => ?_)
                    · have hb : busy i = true := by simpa [nadd_eq] using h5
                      have ho : owed (isb nb busy) (i + 1) = owed (isb nb busy) i ++ [i] := by simp only [owed, isb, hb, decide_eq_true h4]; rfl
                      have hlen : (owed (isb nb busy) (i + 1)).length = (owed (isb nb busy) i).length + 1 := by rw [ho]; simp
                      conv => whnf
                      (repeat' (first | (refine And.intro (by (first | omega | (simp only [nadd_eq]; omega) | (simp [nadd_eq]; omega))) ?_; conv => whnf) | (refine arI64 (by omega) (by omega) ?_; conv => whnf) | (refine arU32 (by omega) (by omega) ?_; conv => whnf) | (refine arU8 (by omega) (by omega) ?_; conv => whnf)))
                      refine ⟨(), trivial, ?_⟩
                      rw [hlen]
                      (conv => whnf); (refine imp_auto hA ?_; conv => whnf); refine ⟨rfl, rfl, rfl, (by repeat' (first | exact trivial | exact rfl | apply And.intro)), ?_, rfl⟩
                      refine And.intro (And.intro rfl (And.intro rfl fun j hj => ?_)) (by repeat' (first | exact trivial | exact rfl | (intro _ _; exact rfl) | (intro _ hj; exact absurd hj (Nat.not_lt_zero _)) | exact Nat.le_refl _ | exact Or.inl (And.intro (fun h => h) rfl) | apply And.intro))
                      rw [ho]
                      exact intsE_snoc _ i _ rfl j hj
                    · have hb : busy i = false := by simpa [nadd_eq] using h5
                      have ho : owed (isb nb busy) (i + 1) = owed (isb nb busy) i := by simp [owed, isb, hb]
                      conv => whnf
                      refine ⟨(), trivial, ?_⟩
                      rw [ho]
                      (conv => whnf); (refine imp_auto hA ?_; conv => whnf); exact ⟨rfl, rfl, rfl, (by repeat' (first | exact trivial | exact rfl | apply And.intro)), (by repeat' (first | exact trivial | exact rfl | (intro _ _; exact rfl) | (intro _ hj; exact absurd hj (Nat.not_lt_zero _)) | exact Nat.le_refl _ | exact Or.inl (And.intro (fun h => h) rfl) | apply And.intro)), rfl⟩
                  · conv => whnf
                    (repeat' (first | (refine And.intro (by (first | omega | (simp only [nadd_eq]; omega) | (simp [nadd_eq]; omega))) ?_; conv => whnf) | (refine arI64 (by omega) (by omega) ?_; conv => whnf) | (refine arU32 (by omega) (by omega) ?_; conv => whnf) | (refine arU8 (by omega) (by omega) ?_; conv => whnf)))
                    refine ⟨i + 1, by omega, by omega, ?_⟩
                    (conv => whnf); (refine imp_auto hA ?_; conv => whnf); exact ⟨rfl, rfl, rfl, (by repeat' (first | exact trivial | exact rfl | apply And.intro)), (by repeat' (first | exact trivial | exact rfl | (intro _ _; exact rfl) | (intro _ hj; exact absurd hj (Nat.not_lt_zero _)) | exact Nat.le_refl _ | exact Or.inl (And.intro (fun h => h) rfl) | apply And.intro)), rfl⟩
                · conv => whnf
                  refine ⟨(), trivial, ?_⟩
                  rw [← hstop i hi (.inr h4)]
                  (conv => whnf); (refine imp_auto hA ?_; conv => whnf); exact ⟨rfl, rfl, rfl, (by repeat' (first | exact trivial | exact rfl | apply And.intro)), (by repeat' (first | exact trivial | exact rfl | (intro _ _; exact rfl) | (intro _ hj; exact absurd hj (Nat.not_lt_zero _)) | exact Nat.le_refl _ | exact Or.inl (And.intro (fun h => h) rfl) | apply And.intro)), rfl⟩
              · conv => whnf
                refine ⟨(), trivial, ?_⟩
                rw [← hstop i hi (.inl h3)]
                (conv => whnf); (refine imp_auto hA ?_; conv => whnf); exact ⟨rfl, rfl, rfl, (by repeat' (first | exact trivial | exact rfl | apply And.intro)), (by repeat' (first | exact trivial | exact rfl | (intro _ _; exact rfl) | (intro _ hj; exact absurd hj (Nat.not_lt_zero _)) | exact Nat.le_refl _ | exact Or.inl (And.intro (fun h => h) rfl) | apply And.intro)), rfl⟩
          · have hk0 : ¬ cnt (kept picked nb busy ow) n = 0 := by omega
            have hLi : L = K1 := by
              rw [hL, hK1]; exact owed_congr fun t ht => by simp only [after, hk0, if_false]
            rw [hLi]
            conv => whnf
            refine ⟨(), trivial, ?_⟩
            (conv => whnf); (refine imp_auto hA ?_; conv => whnf); exact ⟨rfl, rfl, rfl, (by repeat' (first | exact trivial | exact rfl | apply And.intro)), (by repeat' (first | exact trivial | exact rfl | (intro _ _; exact rfl) | (intro _ hj; exact absurd hj (Nat.not_lt_zero _)) | exact Nat.le_refl _ | exact Or.inl (And.intro (fun h => h) rfl) | apply And.intro)), rfl⟩
        · conv => whnf
          (refine fin_auto ?_; conv => whnf); exact ⟨rfl, rfl, rfl, rfl, (by repeat' (first | exact trivial | exact rfl | (intro _ _; exact rfl) | (intro _ hj; exact absurd hj (Nat.not_lt_zero _)) | exact Nat.le_refl _ | exact Or.inl (And.intro (fun h => h) rfl) | apply And.intro)), rfl⟩
end Go.Proofs.Ytfkhaicghoiijaa
