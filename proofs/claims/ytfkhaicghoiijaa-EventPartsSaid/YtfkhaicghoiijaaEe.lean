/- EventEncodes, EventParts: the document's example; what is encoded is decoded. -/
import Derived.Test.YtfkhaicghoiijaaEd
import Derived.Test.YtfkhaicghoiijaaSxY
namespace Go.Proofs.Ytfkhaicghoiijaa
open Go Go.Sx

theorem evAwake_spec : FSpec Try.prog 9 [] 0 [] fun x h m => x = sBool true ∧ m = 0 ∧ h = [] := by
  refine spec_of_ev Try.func9 ic9_eq (rs := [.t 0]) (by kernel_rfl) (by kernel_rfl) (by kernel_rfl) fun G hP hA => ?_
  have hd := dec_spec [4, 14, 7] (by decide) (by decide)
  rw [show dec [4, 14, 7] = [⟨2, 0, 0⟩, ⟨3, 1, 7⟩] from rfl, show ([⟨2, 0, 0⟩, ⟨3, 1, 7⟩] : List Ev).length = 2 from rfl] at hd
  unfold evF ic9
  conv => whnf
  (refine call_auto hP (hd) ?_; conv => whnf); refine ⟨⟨rfl, rfl, rfl, ?_, rfl, rfl⟩, ?_⟩
  · refine And.intro (And.intro rfl (And.intro (Nat.le_refl _) fun i hi => ?_)) trivial
    match i, hi with
    | 0, _ => rfl
    | 1, _ => rfl
    | 2, _ => rfl
  conv => whnf
  (repeat' (first | (refine And.intro (by (first | omega | (simp only [nadd_eq]; omega) | (simp [nadd_eq]; omega))) ?_; conv => whnf) | (refine arI64 (by omega) (by omega) ?_; conv => whnf) | (refine arU32 (by omega) (by omega) ?_; conv => whnf) | (refine arU8 (by omega) (by omega) ?_; conv => whnf)))
  (refine fin_auto ?_; conv => whnf); exact ⟨rfl, rfl, rfl, rfl, (by repeat' (first | exact trivial | exact rfl | (intro _ _; exact rfl) | (intro _ hj; exact absurd hj (Nat.not_lt_zero _)) | exact Nat.le_refl _ | exact Or.inl (And.intro (fun h => h) rfl) | apply And.intro)), rfl⟩
theorem dec_enc (e : Ev) (he : isEv e = true) (r : List Nat) : dec (encE e ++ r) = e :: dec r := by
  have h := rightE_iff.1 he
  obtain ⟨k, t, w⟩ := e
  simp only at h
  have key : ∀ (b : Nat) (x : Ev), b % 8 ≠ 6 → oneE b = x → dec (b :: r) = x :: dec r := fun b x hb ho => by
    cases r with
    | nil => simp [dec, ho]
    | cons c r => simp [dec, hb, ho]
  unfold encE
  simp only
  split
  · exact key _ _ (by omega) (by unfold oneE; rw [if_neg (by omega), if_neg (by omega), if_neg (by omega), if_neg (by omega)]; simp only [Ev.mk.injEq]; omega)
  · split
    · exact key _ _ (by omega) (by unfold oneE; rw [if_pos (by omega)]; simp only [Ev.mk.injEq]; omega)
    · split
      · exact key _ _ (by omega) (by unfold oneE; rw [if_neg (by omega), if_neg (by omega), if_neg (by omega), if_pos (by omega)]; simp only [Ev.mk.injEq]; omega)
      · split
        · exact key _ _ (by omega) (by unfold oneE; rw [if_neg (by omega), if_pos (by omega)]; simp only [Ev.mk.injEq]; omega)
        · show (if _ then _ else _) = _
          rw [if_pos (by omega)]
          simp only [List.cons.injEq, Ev.mk.injEq]
          refine ⟨⟨by omega, by omega, by omega⟩, rfl⟩
theorem dec_encN (f : Nat → Ev) (r : List Nat) : ∀ n, (∀ i, i < n → isEv (f i) = true) → dec (encN f n ++ r) = (List.range n).map f ++ dec r := by
  intro n
  induction n generalizing r with
  | zero => intro _; rfl
  | succ n ih =>
    intro h
    rw [encN, List.append_assoc, ih _ fun i hi => h i (by omega), dec_enc _ (h n (by omega)), List.range_succ, List.map_append, List.append_assoc]; rfl
theorem encE_lt {e : Ev} (he : isEv e = true) : ∀ b ∈ encE e, b < 256 := by
  have h := rightE_iff.1 he
  intro b hb
  unfold encE at hb
  split at hb
  · simp at hb; omega
  · split at hb
    · simp at hb; omega
    · split at hb
      · simp at hb; omega
      · split at hb
        · simp at hb; omega
        · simp at hb; omega
theorem encN_lt {f : Nat → Ev} : ∀ n, (∀ i, i < n → isEv (f i) = true) → ∀ b ∈ encN f n, b < 256
  | 0, _, b, hb => by cases hb
  | n + 1, h, b, hb => by
    rcases List.mem_append.1 hb with hb | hb
    · exact encN_lt n (fun i hi => h i (by omega)) b hb
    · exact encE_lt (h n (by omega)) b hb
end Go.Proofs.Ytfkhaicghoiijaa
