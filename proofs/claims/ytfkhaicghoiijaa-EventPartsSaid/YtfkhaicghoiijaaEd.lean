/- EventEncodes, EventParts: Decode. -/
import Derived.Test.YtfkhaicghoiijaaEc
namespace Go.Proofs.Ytfkhaicghoiijaa
open Go Go.Sx

def dec : List Nat → List Ev
  | [] => []
  | [b] => [oneE b]
  | b :: c :: r => if b % 8 = 6 then ⟨3, (b / 8 : Nat), (c : Nat)⟩ :: dec r else oneE b :: dec (c :: r)
def evsL (l : List Ev) : Nat → List Value := fun i => evRow (l.getD i ⟨0, 0, 0⟩)
theorem evsL_snoc (l : List Ev) (x : Ev) (g : Nat → List Value) (hg : g 0 = evRow x) : ∀ j, j < l.length + 1 → (if j < l.length then evsL l j else g (j - l.length)) = evsL (l ++ [x]) j := fun j hj => by
  by_cases h : j < l.length
  · simp [h, evsL, List.getElem?_append_left h]
  · obtain rfl : j = l.length := by omega
    simp [evsL, hg]
theorem dec_len : ∀ l : List Nat, (dec l).length ≤ l.length
  | [] => Nat.le_refl _
  | [b] => Nat.le_refl _
  | b :: c :: r => by
    unfold dec
    split
    · have := dec_len r; simp; omega
    · have := dec_len (c :: r); simp at this ⊢; omega
theorem dec_spec (l : List Nat) (hl : l.length ≤ 1000) (hb : ∀ b ∈ l, b < 256) :
    FSpec Try.prog 10 [(0, some (.ro 1 l.length (bytesE l)))] 1 [.l (.s 0 1 0 l.length 0)] fun x h n =>
      x = .o (.l (.s 1 3 0 (dec l).length 0)) ∧ n = 2 ∧ h = [(1, some (.ar 3 (dec l).length (evsL (dec l))))] := by
  refine spec_of_ev Try.func10 ic10_eq (rs := [.t 2]) (by kernel_rfl) (by kernel_rfl) (by kernel_rfl) fun G hP hA => ?_
  unfold evF ic10
  conv => whnf
  refine loop_auto (α := Nat × Nat × List Ev) (ds := []) (N := 2) (fun x => [(0, .o (.l (.s 0 1 x.1 (l.length - x.1) x.2.1))), (3, .o (.l (.s 1 3 0 x.2.2.length 0)))]) [] (fun x => [(1, some (.ar 3 x.2.2.length (evsL x.2.2)))])
    (fun x => x.1 ≤ l.length ∧ x.2.2.length ≤ x.1 ∧ dec l = x.2.2 ++ dec (l.drop x.1)) (fun x => l.length - x.1) (0, 0, []) ⟨Nat.zero_le _, Nat.le_refl _, rfl⟩ ?_ fun x hx => ?_
  · conv => whnf
    refine Imp.trans (imp_nil 3 3 (fun _ => []) rfl) ?_
    (conv => whnf); (refine imp_auto hA ?_; conv => whnf); exact ⟨rfl, rfl, rfl, (by repeat' (first | exact trivial | exact rfl | apply And.intro)), (by repeat' (first | exact trivial | exact rfl | (intro _ _; exact rfl) | (intro _ hj; exact absurd hj (Nat.not_lt_zero _)) | exact Nat.le_refl _ | exact Or.inl (And.intro (fun h => h) rfl) | apply And.intro)), rfl⟩
  · obtain ⟨i, dd, D⟩ := x
    obtain ⟨hi, hDi, hD⟩ := hx
    have hi : i ≤ l.length := hi
    have hDi : D.length ≤ i := hDi
    have hD : dec l = D ++ dec (l.drop i) := hD
    conv => whnf
    refine dsplit (fun h1 => ?_) (fun h1 => ?_)
    · have h1 : (0 : Int) < ((l.length - i : Nat) : Int) := h1
      have hil : i < l.length := by omega
      have hni : nadd i (Int.toNat 0) = i := by simp [nadd_eq]
      obtain ⟨b, hbd⟩ : ∃ b, b = l.getD i 0 := ⟨_, rfl⟩
      have hbb : b < 256 := hb b (by rw [hbd]; simp [hil])
      have hdr : l.drop i = b :: l.drop (i + 1) := by rw [List.drop_eq_getElem_cons hil, hbd]; simp [hil]
      conv => whnf
      (repeat' (first | (refine And.intro (by (first | omega | (simp only [nadd_eq]; omega) | (simp [nadd_eq]; omega))) ?_; conv => whnf) | (refine arI64 (by omega) (by omega) ?_; conv => whnf) | (refine arU32 (by omega) (by omega) ?_; conv => whnf) | (refine arU8 (by omega) (by omega) ?_; conv => whnf)))
      dsimp only
      rw [hni, ← hbd]
      (refine call_auto hP (one_spec b hbb) ?_; conv => whnf); (refine ⟨⟨rfl, rfl, rfl, (by repeat' (first | exact trivial | exact rfl | (intro _ _; exact rfl) | (intro _ hj; exact absurd hj (Nat.not_lt_zero _)) | exact Nat.le_refl _ | exact Or.inl (And.intro (fun h => h) rfl) | apply And.intro)), rfl, rfl⟩, ?_⟩; conv => whnf)
      (refine join_plain ?_; conv => whnf)
      (repeat' (first | (refine And.intro (by (first | omega | (simp only [nadd_eq]; omega) | (simp [nadd_eq]; omega))) ?_; conv => whnf) | (refine arI64 (by omega) (by omega) ?_; conv => whnf) | (refine arU32 (by omega) (by omega) ?_; conv => whnf) | (refine arU8 (by omega) (by omega) ?_; conv => whnf)))
      intro d1 hd1
      have hn1 : nadd i (Int.toNat 1) = i + 1 := by simp [nadd_eq]; omega
      have hs1 : l.length - i - Int.toNat 1 = l.length - (i + 1) := by simp; omega
      rw [hn1, hs1]
      conv => whnf
      refine dsplit (fun h2 => ?_) (fun h2 => ?_)
      · have ho : oneE b = ⟨3, (b / 8 : Nat), 0⟩ := by unfold oneE; simp (disch := omega) only [if_pos, if_neg]
        rw [ho]
        conv => whnf
        refine dsplit (fun h3 => ?_) (fun h3 => ?_)
        · obtain ⟨c, hcd⟩ : ∃ c, c = l.getD (i + 1) 0 := ⟨_, rfl⟩
          have h3 : (0 : Int) < ((l.length - (i + 1) : Nat) : Int) := h3
          have hil2 : i + 1 < l.length := by omega
          have hcb : c < 256 := hb c (by rw [hcd]; simp [hil2])
          have hdr2 : l.drop (i + 1) = c :: l.drop (i + 2) := by rw [List.drop_eq_getElem_cons hil2, hcd]; simp [hil2]
          have hn2 : nadd (i + 1) (Int.toNat 0) = i + 1 := by simp [nadd_eq]
          conv => whnf
          (repeat' (first | (refine And.intro (by (first | omega | (simp only [nadd_eq]; omega) | (simp [nadd_eq]; omega))) ?_; conv => whnf) | (refine arI64 (by omega) (by omega) ?_; conv => whnf) | (refine arU32 (by omega) (by omega) ?_; conv => whnf) | (refine arU8 (by omega) (by omega) ?_; conv => whnf)))
          rw [hn2, ← hcd]
          refine arI64 (by omega) (by omega) ?_
          conv => whnf
          (repeat' (first | (refine And.intro (by (first | omega | (simp only [nadd_eq]; omega) | (simp [nadd_eq]; omega))) ?_; conv => whnf) | (refine arI64 (by omega) (by omega) ?_; conv => whnf) | (refine arU32 (by omega) (by omega) ?_; conv => whnf) | (refine arU8 (by omega) (by omega) ?_; conv => whnf)))
          intro d2 hd2
          have hn3 : nadd (i + 1) (Int.toNat 1) = i + 2 := by simp [nadd_eq]; omega
          have hs2 : l.length - (i + 1) - Int.toNat 1 = l.length - (i + 2) := by simp; omega
          rw [hn3, hs2]
          conv => whnf
          (repeat' (first | (refine And.intro (by (first | omega | (simp only [nadd_eq]; omega) | (simp [nadd_eq]; omega))) ?_; conv => whnf) | (refine arI64 (by omega) (by omega) ?_; conv => whnf) | (refine arU32 (by omega) (by omega) ?_; conv => whnf) | (refine arU8 (by omega) (by omega) ?_; conv => whnf)))
          have hde : dec l = (D ++ [⟨3, (b / 8 : Nat), c⟩]) ++ dec (l.drop (i + 2)) := by
            rw [hD, hdr, hdr2, List.append_assoc]; congr 1
            show (if b % 8 = 6 then _ else _) = _
            rw [if_pos h2]; rfl
          refine ⟨(i + 2, d2, D ++ [⟨3, (b / 8 : Nat), c⟩]), ⟨by show i + 2 ≤ l.length; omega, by show (D ++ [_]).length ≤ i + 2; simp; omega, hde⟩, by show l.length - (i + 2) < l.length - i; omega, ?_⟩
          dsimp only
          have hlen : (D ++ [(⟨3, (b / 8 : Nat), c⟩ : Ev)]).length = D.length + 1 := by simp
          rw [hlen]
          (conv => whnf); (refine imp_auto hA ?_; conv => whnf); refine ⟨rfl, rfl, rfl, (by repeat' (first | exact trivial | exact rfl | apply And.intro)), ?_, rfl⟩
          refine And.intro (And.intro rfl (And.intro rfl fun j hj => ?_)) (by repeat' (first | exact trivial | exact rfl | (intro _ _; exact rfl) | (intro _ hj; exact absurd hj (Nat.not_lt_zero _)) | exact Nat.le_refl _ | exact Or.inl (And.intro (fun h => h) rfl) | apply And.intro))
          exact evsL_snoc D (⟨3, (b / 8 : Nat), c⟩) _ rfl j hj
        · have h3 : ¬ (0 : Int) < ((l.length - (i + 1) : Nat) : Int) := h3
          have hil2 : l.length = i + 1 := by omega
          have hdr2 : l.drop (i + 1) = [] := List.drop_eq_nil_of_le (by omega)
          conv => whnf
          (repeat' (first | (refine And.intro (by (first | omega | (simp only [nadd_eq]; omega) | (simp [nadd_eq]; omega))) ?_; conv => whnf) | (refine arI64 (by omega) (by omega) ?_; conv => whnf) | (refine arU32 (by omega) (by omega) ?_; conv => whnf) | (refine arU8 (by omega) (by omega) ?_; conv => whnf)))
          have hde : dec l = (D ++ [⟨3, (b / 8 : Nat), 0⟩]) ++ dec (l.drop (i + 1)) := by
            rw [hD, hdr, hdr2, List.append_assoc]; congr 1
            show [oneE b] = _
            rw [ho]; rfl
          refine ⟨(i + 1, d1, D ++ [⟨3, (b / 8 : Nat), 0⟩]), ⟨by show i + 1 ≤ l.length; omega, by show (D ++ [_]).length ≤ i + 1; simp; omega, hde⟩, by show l.length - (i + 1) < l.length - i; omega, ?_⟩
          dsimp only
          have hlen : (D ++ [(⟨3, (b / 8 : Nat), 0⟩ : Ev)]).length = D.length + 1 := by simp
          rw [hlen]
          (conv => whnf); (refine imp_auto hA ?_; conv => whnf); refine ⟨rfl, rfl, rfl, (by repeat' (first | exact trivial | exact rfl | apply And.intro)), ?_, rfl⟩
          refine And.intro (And.intro rfl (And.intro rfl fun j hj => ?_)) (by repeat' (first | exact trivial | exact rfl | (intro _ _; exact rfl) | (intro _ hj; exact absurd hj (Nat.not_lt_zero _)) | exact Nat.le_refl _ | exact Or.inl (And.intro (fun h => h) rfl) | apply And.intro))
          exact evsL_snoc D (⟨3, (b / 8 : Nat), 0⟩) _ rfl j hj
      · conv => whnf
        (repeat' (first | (refine And.intro (by (first | omega | (simp only [nadd_eq]; omega) | (simp [nadd_eq]; omega))) ?_; conv => whnf) | (refine arI64 (by omega) (by omega) ?_; conv => whnf) | (refine arU32 (by omega) (by omega) ?_; conv => whnf) | (refine arU8 (by omega) (by omega) ?_; conv => whnf)))
        have hde : dec l = (D ++ [oneE b]) ++ dec (l.drop (i + 1)) := by
          rw [hD, hdr, List.append_assoc]; congr 1
          cases h : l.drop (i + 1) with
          | nil => rfl
          | cons c r =>
            show (if b % 8 = 6 then _ else _) = _
            rw [if_neg h2]; rfl
        refine ⟨(i + 1, d1, D ++ [oneE b]), ⟨by show i + 1 ≤ l.length; omega, by show (D ++ [_]).length ≤ i + 1; simp; omega, hde⟩, by show l.length - (i + 1) < l.length - i; omega, ?_⟩
        dsimp only
        have hlen : (D ++ [oneE b]).length = D.length + 1 := by simp
        rw [hlen]
        (conv => whnf); (refine imp_auto hA ?_; conv => whnf); refine ⟨rfl, rfl, rfl, (by repeat' (first | exact trivial | exact rfl | apply And.intro)), ?_, rfl⟩
        refine And.intro (And.intro rfl (And.intro rfl fun j hj => ?_)) (by repeat' (first | exact trivial | exact rfl | (intro _ _; exact rfl) | (intro _ hj; exact absurd hj (Nat.not_lt_zero _)) | exact Nat.le_refl _ | exact Or.inl (And.intro (fun h => h) rfl) | apply And.intro))
        exact evsL_snoc D (oneE b) _ rfl j hj
    · have h1 : ¬ (0 : Int) < ((l.length - i : Nat) : Int) := h1
      obtain rfl : i = l.length := by omega
      have hDl : dec l = D := by rw [hD]; simp [dec]
      rw [hDl]
      conv => whnf
      (refine fin_auto ?_; conv => whnf); exact ⟨rfl, rfl, rfl, rfl, (by repeat' (first | exact trivial | exact rfl | (intro _ _; exact rfl) | (intro _ hj; exact absurd hj (Nat.not_lt_zero _)) | exact Nat.le_refl _ | exact Or.inl (And.intro (fun h => h) rfl) | apply And.intro)), rfl⟩
end Go.Proofs.Ytfkhaicghoiijaa
