/- AheadLongest: the document's queue, the plain law, the walk. -/
import Derived.Test.YtfkhaicghoiijacAo
set_option linter.unusedSimpArgs false
set_option linter.unusedVariables false
namespace Go.Proofs.Ytfkhaicghoiijac
open Go Go.Sx

def filN (p : Int → Bool) (L : List Int) : Nat → List Int
  | 0 => []
  | i + 1 => if p (L.getD i 0) = true then filN p L i ++ [L.getD i 0] else filN p L i
theorem filN_eq (p : Int → Bool) (L : List Int) : ∀ i, i ≤ L.length → filN p L i = (L.take i).filter p
  | 0, _ => by simp [filN]
  | i + 1, h => by
    have hi : i < L.length := by omega
    rw [List.take_succ_eq_append_getElem hi, List.filter_append]
    simp only [filN, filN_eq p L i (by omega)]
    have hg : L.getD i 0 = L[i] := by simp [hi]
    rw [hg]
    cases hp : p L[i] <;> simp [hp]
def quN (k t : Nat → Int) (m : Nat) : List Int := (thrN t m).filter (inN k t m)
theorem filN_len (p : Int → Bool) (L : List Int) : ∀ i, (filN p L i).length ≤ i
  | 0 => Nat.le_refl _
  | i + 1 => by have := filN_len p L i; simp only [filN]; split <;> simp <;> omega
theorem queue_spec (k t : Nat → Int) (a : Nat → Int) (b : Nat → Bool) (m : Nat) (hm : m ≤ 1000) :
    FSpec Try.prog 8 [(0, some (.ro 4 m (refE k t a b)))] 1 [.l (.s 0 4 0 m 0)] fun x h n => x = .o (.l (.s 1 1 0 (quN k t m).length 0)) ∧ n = 2 ∧ h = [(1, some (.ar 1 (quN k t m).length (intsZ (quN k t m))))] := by
  have hth := threads_spec k t a b m hm
  have hln := thrN_len t m
  have hend : filN (inN k t m) (thrN t m) (thrN t m).length = quN k t m := by rw [filN_eq _ _ _ (Nat.le_refl _), List.take_length]; rfl
  generalize thrN t m = L at *
  generalize quN k t m = Q at *
  refine spec_of_ev Try.func8 ic8_eq (rs := [.t 2]) (by kernel_rfl) (by kernel_rfl) (by kernel_rfl) fun G hP hA => ?_
  unfold evF ic8
  conv => whnf
  (refine call_auto hP (hth) ?_; conv => whnf); (refine ⟨⟨rfl, rfl, rfl, (by repeat' (first | exact trivial | exact rfl | (intro _ _; exact rfl) | (intro _ hj; exact absurd hj (Nat.not_lt_zero _)) | exact Nat.le_refl _ | exact Or.inl (And.intro (fun h => h) rfl) | apply And.intro)), rfl, rfl⟩, ?_⟩; conv => whnf)
  refine loop_auto (α := Nat) (ds := []) (N := 3) (fun i => [(3, .o (.l (.s 2 1 0 (filN (inN k t m) L i).length 0))), (9, sInt .i64 (i : Int))]) [] (fun i => [(2, some (.ar 1 (filN (inN k t m) L i).length (intsZ (filN (inN k t m) L i))))])
    (fun i => i ≤ L.length) (fun i => L.length - i) 0 (Nat.zero_le _) ?_ fun i hi => ?_
  · conv => whnf
    refine Imp.trans (imp_nil 3 1 (intsZ []) rfl) ?_
    (conv => whnf); (refine imp_auto hA ?_; conv => whnf); exact ⟨rfl, rfl, rfl, (by repeat' (first | exact trivial | exact rfl | apply And.intro)), (by repeat' (first | exact trivial | exact rfl | (intro _ _; exact rfl) | (intro _ hj; exact absurd hj (Nat.not_lt_zero _)) | exact Nat.le_refl _ | exact Or.inl (And.intro (fun h => h) rfl) | apply And.intro)), rfl⟩
  · have hl := filN_len (inN k t m) L i
    conv => whnf
    refine dsplit (fun h1 => ?_) (fun h1 => ?_)
    · have hin := in_spec k t a b m (L.getD i 0) hm
      conv => whnf
      (refine join_plain ?_; conv => whnf)
      (repeat' (first | (refine And.intro (by (first | omega | assumption | (simp only [nadd_eq]; omega) | (simp [nadd_eq]; omega))) ?_; conv => whnf) | (refine arI64 (by omega) (by omega) ?_; conv => whnf) | (refine arU32 (by omega) (by omega) ?_; conv => whnf) | (refine arU8 (by omega) (by omega) ?_; conv => whnf)))
      (refine call_auto hP (hin) ?_; conv => whnf); (refine ⟨⟨rfl, rfl, rfl, (by repeat' (first | exact trivial | exact rfl | (intro _ _; exact rfl) | (intro _ hj; exact absurd hj (Nat.not_lt_zero _)) | exact Nat.le_refl _ | exact Or.inl (And.intro (fun h => h) rfl) | apply And.intro)), rfl, rfl⟩, ?_⟩; conv => whnf)
      refine bsplit (fun h2 => ?_) (fun h2 => ?_)
      · have ho : filN (inN k t m) L (i + 1) = filN (inN k t m) L i ++ [L.getD i 0] := by simp only [filN, if_pos h2]
        have hlen : (filN (inN k t m) L (i + 1)).length = (filN (inN k t m) L i).length + 1 := by rw [ho]; simp
        conv => whnf
        (repeat' (first | (refine And.intro (by (first | omega | assumption | (simp only [nadd_eq]; omega) | (simp [nadd_eq]; omega))) ?_; conv => whnf) | (refine arI64 (by omega) (by omega) ?_; conv => whnf) | (refine arU32 (by omega) (by omega) ?_; conv => whnf) | (refine arU8 (by omega) (by omega) ?_; conv => whnf)))
        refine ⟨i + 1, by omega, by omega, ?_⟩
        rw [hlen]
        (conv => whnf); (refine imp_auto hA ?_; conv => whnf); refine ⟨rfl, rfl, rfl, (by repeat' (first | exact trivial | exact rfl | apply And.intro)), ?_, rfl⟩
        refine And.intro (And.intro rfl (And.intro rfl fun j hj => ?_)) (by repeat' (first | exact trivial | exact rfl | (intro _ _; exact rfl) | (intro _ hj; exact absurd hj (Nat.not_lt_zero _)) | exact Nat.le_refl _ | exact Or.inl (And.intro (fun h => h) rfl) | apply And.intro))
        rw [ho]
        exact intsZ_snoc _ _ _ rfl j hj
      · have ho : filN (inN k t m) L (i + 1) = filN (inN k t m) L i := by simp only [filN, h2, Bool.false_eq_true, if_false]
        conv => whnf
        (repeat' (first | (refine And.intro (by (first | omega | assumption | (simp only [nadd_eq]; omega) | (simp [nadd_eq]; omega))) ?_; conv => whnf) | (refine arI64 (by omega) (by omega) ?_; conv => whnf) | (refine arU32 (by omega) (by omega) ?_; conv => whnf) | (refine arU8 (by omega) (by omega) ?_; conv => whnf)))
        refine ⟨i + 1, by omega, by omega, ?_⟩
        rw [ho]
        (conv => whnf); (refine imp_auto hA ?_; conv => whnf); exact ⟨rfl, rfl, rfl, (by repeat' (first | exact trivial | exact rfl | apply And.intro)), (by repeat' (first | exact trivial | exact rfl | (intro _ _; exact rfl) | (intro _ hj; exact absurd hj (Nat.not_lt_zero _)) | exact Nat.le_refl _ | exact Or.inl (And.intro (fun h => h) rfl) | apply And.intro)), rfl⟩
    · obtain rfl : i = L.length := by omega
      rw [← hend]
      conv => whnf
      (refine fin_auto ?_; conv => whnf); exact ⟨rfl, rfl, rfl, rfl, (by repeat' (first | exact trivial | exact rfl | (intro _ _; exact rfl) | (intro _ hj; exact absurd hj (Nat.not_lt_zero _)) | exact Nat.le_refl _ | exact Or.inl (And.intro (fun h => h) rfl) | apply And.intro)), rfl⟩
def mostN (k t : Nat → Int) : Nat → Nat
  | 0 => 0
  | i + 1 => max (mostN k t i) (quN k t (i + 1)).length
end Go.Proofs.Ytfkhaicghoiijac
