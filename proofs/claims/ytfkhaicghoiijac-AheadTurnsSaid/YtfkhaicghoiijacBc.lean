/- AheadTells, AheadTurns: In. -/
import Derived.Test.YtfkhaicghoiijacBb
set_option linter.unusedSimpArgs false
set_option linter.unusedVariables false
namespace Go.Proofs.Ytfkhaicghoiijac
open Go Go.Sx

theorem pw_snoc {A : List Int} {u : Int} (h : A.Pairwise (· < ·)) (h2 : ∀ x ∈ A, x < u) : (A ++ [u]).Pairwise (· < ·) :=
  List.pairwise_append.2 ⟨h, by simp, fun a ha b hb => by simp at hb; subst hb; exact h2 a ha⟩
theorem acc_sorted (t : Int) (L : List Int) (hL : L.Pairwise (· < ·)) : ∀ j, j ≤ L.length → (accT t L j).1.Pairwise (· < ·) ∧ (∀ x ∈ (accT t L j).1, ∀ y ∈ L.drop j, x < y) ∧ ((accT t L j).2 = false → ∀ x ∈ (accT t L j).1, x < t)
  | 0, _ => ⟨by simp [accT], fun x hx => by simp [accT] at hx, fun _ x hx => by simp [accT] at hx⟩
  | j + 1, h => by
    obtain ⟨i1, i2, i3⟩ := acc_sorted t L hL j (by omega)
    have hj : j < L.length := by omega
    have hg : L.getD j 0 = L[j] := by simp [hj]
    have hd : L.drop j = L[j] :: L.drop (j + 1) := List.drop_eq_getElem_cons hj
    have hy : ∀ y ∈ L.drop (j + 1), L[j] < y := by
      have := hL.sublist (List.drop_sublist j L)
      rw [hd] at this
      exact (List.pairwise_cons.1 this).1
    have hu : ∀ x ∈ (accT t L j).1, x < L[j] := fun x hx => i2 x hx _ (by rw [hd]; exact List.mem_cons_self)
    have ho : ∀ x ∈ (accT t L j).1, ∀ y ∈ L.drop (j + 1), x < y := fun x hx y hy' => i2 x hx y (by rw [hd]; exact List.mem_cons_of_mem _ hy')
    rw [show accT t L (j + 1) = stepT t (accT t L j) (L.getD j 0) from rfl, hg]
    generalize accT t L j = p at *
    generalize L[j] = u at *
    obtain ⟨A, put⟩ := p
    simp only at i1 i2 i3 hu ho
    unfold stepT
    by_cases hp : t ≤ u ∧ put = false
    · have ht := i3 hp.2
      have h1 : (A ++ [t]).Pairwise (· < ·) := pw_snoc i1 ht
      simp only [hp, and_self, if_true]
      by_cases hut : u = t
      · subst hut
        simp only [ne_eq, not_true_eq_false, if_false]
        refine ⟨h1, fun x hx y hy' => ?_, fun h => by simp at h⟩
        rcases List.mem_append.1 hx with hx | hx
        · exact ho x hx y hy'
        · simp at hx; subst hx; exact hy y hy'
      · rw [if_pos hut]
        refine ⟨pw_snoc h1 fun x hx => ?_, fun x hx y hy' => ?_, fun h => by simp at h⟩
        · rcases List.mem_append.1 hx with hx | hx
          · exact hu x hx
          · simp at hx; subst hx; have := hp.1; omega
        · have h3 := hy y hy'
          rcases List.mem_append.1 hx with hx | hx
          · rcases List.mem_append.1 hx with hx | hx
            · exact ho x hx y hy'
            · simp at hx; subst hx; have := hp.1; omega
          · simp at hx; subst hx; exact h3
    · rw [if_neg hp]
      by_cases hut : u = t
      · rw [if_neg (by simpa using hut)]
        refine ⟨i1, ho, fun h => ?_⟩
        exact absurd ⟨by omega, h⟩ hp
      · rw [if_pos hut]
        refine ⟨pw_snoc i1 hu, fun x hx y hy' => ?_, fun h x hx => ?_⟩
        · rcases List.mem_append.1 hx with hx | hx
          · exact ho x hx y hy'
          · simp at hx; subst hx; exact hy y hy'
        · have h4 : ¬ t ≤ u := fun h5 => hp ⟨h5, h⟩
          rcases List.mem_append.1 hx with hx | hx
          · exact i3 h x hx
          · simp at hx; subst hx; omega
theorem fin_sorted (t : Int) (L : List Int) (hL : L.Pairwise (· < ·)) : (finT t L).Pairwise (· < ·) := by
  obtain ⟨h1, _, h3⟩ := acc_sorted t L hL L.length (Nat.le_refl _)
  unfold finT
  split
  · exact h1
  · rename_i h
    exact pw_snoc h1 (h3 (by simpa using h))
theorem thr_sorted (t : Nat → Int) : ∀ n, (thrN t n).Pairwise (· < ·)
  | 0 => by simp [thrN]
  | n + 1 => fin_sorted (t n) _ (thr_sorted t n)
theorem qu_sorted (k t : Nat → Int) (n : Nat) : (quN k t n).Pairwise (· < ·) := (thr_sorted t n).sublist List.filter_sublist
theorem qu_mem (k t : Nat → Int) (n : Nat) (u : Int) : u ∈ quN k t n ↔ (mapN k t n u).isSome = true := by
  obtain ⟨_, h⟩ := law_inv k t n
  obtain ⟨h1, _, h3⟩ := h u
  rw [h1]
  unfold quN
  rw [List.mem_filter]
  constructor
  · exact fun h => h.2
  · intro hh
    refine ⟨?_, hh⟩
    have := h3 hh
    exact List.count_pos_iff.1 (by omega)
theorem keys_spec (M : Int → Option Int) (s : Nat) : FSpec Try.prog 16 [(0, some (.mp .i64 .i64 M s none))] 1 [.l (.mref 0)] fun x h n =>
    x = .o (.l (.c 20 [1])) ∧ n = 2 ∧ h = [(0, some (.mp .i64 .i64 M s none)), (1, some (.st [.mref 0]))] := by
  refine spec_of_ev Try.func16 ic16_eq (rs := [.t 2]) (by kernel_rfl) (by kernel_rfl) (by kernel_rfl) fun G hP hA => ?_
  unfold evF ic16
  conv => whnf
  (refine fin_auto ?_; conv => whnf); refine ⟨rfl, rfl, rfl, ?_, ?_, rfl⟩
  · rfl
  · exact And.intro ⟨rfl, rfl, rfl, fun _ => rfl, rfl⟩ (by repeat' (first | exact trivial | exact rfl | (intro _ _; exact rfl) | (intro _ hj; exact absurd hj (Nat.not_lt_zero _)) | exact Nat.le_refl _ | exact Or.inl (And.intro (fun h => h) rfl) | apply And.intro))
theorem sorted_spec' (M : Int → Option Int) (s : Nat) (hs : s ≤ 1000) (L : List Int) (hL1 : L.Pairwise (· < ·)) (hL2 : ∀ x, x ∈ L ↔ (M x).isSome = true) :
    FSpec Try.prog 15 [(0, some (.mp .i64 .i64 M s none)), (1, some (.st [.mref 0]))] 2 [.l (.c 20 [1])] fun x h n =>
      x = .o (.l (.s 2 1 0 L.length 0)) ∧ n = 3 ∧ h = [(2, some (.ar 1 L.length (intsZ L)))] := by
  refine FSpec.nil_ret (sorted_spec M s hs L hL1 hL2) fun x h n hx => ?_
  rcases hx with hx | ⟨rfl, rfl, rfl, rfl⟩
  · exact .inl hx
  · exact .inr ⟨1, intsZ [], _, fun ρ h => nil_at ρ h, fun ρ D hD h _ => nil_ok ρ D hD h, rfl, rfl, rfl⟩
theorem inq_spec (k t a : Nat → Int) (b : Nat → Bool) (m : Nat) (j : Int) (q : Nat) (hq : (q : Int) = min (max j 0) m) (hm : m ≤ 1000) (ht : ∀ i, i < m → inI (t i)) :
    FSpec Try.prog 10 [(0, some (.ro 4 m (entE k t a b)))] 1 [.l (.s 0 4 0 m 0), .l (.v (.int .i64 j))] fun x h n =>
      x = .o (.l (.s 1 1 0 (quN k t q).length 0)) ∧ n = 2 ∧ h = [(1, some (.ar 1 (quN k t q).length (intsZ (quN k t q))))] := by
  have h1 := at_spec k t a b m j q hq hm ht
  have hz := szN_le k t q
  have h2 := keys_spec (mapN k t q) (szN k t q)
  have h3 := sorted_spec' (mapN k t q) (szN k t q) (by omega) (quN k t q) (qu_sorted k t q) (qu_mem k t q)
  refine spec_of_ev Try.func10 ic10_eq (rs := [.t 4]) (by kernel_rfl) (by kernel_rfl) (by kernel_rfl) fun G hP hA => ?_
  unfold evF ic10
  conv => whnf
  (refine call_auto hP (h1) ?_; conv => whnf); (refine ⟨⟨rfl, rfl, rfl, (by repeat' (first | exact trivial | exact rfl | (intro _ _; exact rfl) | (intro _ hj; exact absurd hj (Nat.not_lt_zero _)) | exact Nat.le_refl _ | exact Or.inl (And.intro (fun h => h) rfl) | apply And.intro)), rfl, rfl⟩, ?_⟩; conv => whnf)
  (refine call_auto hP (h2) ?_; conv => whnf); refine ⟨⟨rfl, rfl, rfl, ?_, rfl, rfl⟩, ?_⟩
  · exact And.intro ⟨rfl, rfl, rfl, fun _ => rfl, rfl⟩ (by repeat' (first | exact trivial | exact rfl | (intro _ _; exact rfl) | (intro _ hj; exact absurd hj (Nat.not_lt_zero _)) | exact Nat.le_refl _ | exact Or.inl (And.intro (fun h => h) rfl) | apply And.intro))
  conv => whnf
  (refine call_auto hP (h3) ?_; conv => whnf); refine ⟨⟨rfl, rfl, rfl, ?_, rfl, rfl⟩, ?_⟩
  · exact And.intro ⟨rfl, rfl, rfl, fun _ => rfl, rfl⟩ (And.intro rfl (by repeat' (first | exact trivial | exact rfl | (intro _ _; exact rfl) | (intro _ hj; exact absurd hj (Nat.not_lt_zero _)) | exact Nat.le_refl _ | exact Or.inl (And.intro (fun h => h) rfl) | apply And.intro)))
  conv => whnf
  (refine fin_auto ?_; conv => whnf); exact ⟨rfl, rfl, rfl, rfl, (by repeat' (first | exact trivial | exact rfl | (intro _ _; exact rfl) | (intro _ hj; exact absurd hj (Nat.not_lt_zero _)) | exact Nat.le_refl _ | exact Or.inl (And.intro (fun h => h) rfl) | apply And.intro)), rfl⟩
end Go.Proofs.Ytfkhaicghoiijac
