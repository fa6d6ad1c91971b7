/- Serial*: one deed of a section. -/
import Derived.Test.YtfkhaicghoiijabSo
namespace Go.Proofs.Ytfkhaicghoiijab
open Go Go.Sx

structure Dd where
  k : Int
  c : Int
  n : Int
def ddE (D : Nat → Dd) : Nat → List Value := fun i => [.int .i64 (D i).k, .int .i64 (D i).c, .int .u32 (D i).n]
def cellsC (c : Nat → Int) : List LV := [.v (.int .u32 (c 0)), .v (.int .u32 (c 1)), .v (.int .u32 (c 2)), .v (.int .u32 (c 3)), .v (.int .u32 (c 4)), .v (.int .u32 (c 5)), .v (.int .u32 (c 6)), .v (.int .u32 (c 7)), .v (.int .u32 (c 8)), .v (.int .u32 (c 9)), .v (.int .u32 (c 10)), .v (.int .u32 (c 11)), .v (.int .u32 (c 12)), .v (.int .u32 (c 13)), .v (.int .u32 (c 14)), .v (.int .u32 (c 15))]
def upd (c : Nat → Int) (i : Nat) (x : Int) (t : Nat) : Int := if t = i then x else c t
def idx (d : Dd) : Nat := (d.c % 16).toNat
def wr (n : Int) : Int := IntKind.u32.wrap n
def cell1 (d : Dd) (c : Nat → Int) (reg : Int) : Nat → Int := if d.k = 4 then upd c (idx d) reg else c
def reg1 (d : Dd) (c : Nat → Int) (reg : Int) : Int := if d.k = 1 then c (idx d) else if d.k = 2 then wr (reg + d.n) else if d.k = 3 then wr (reg * d.n) else reg
theorem lt16 {p : Nat → Prop} (h : p 0 ∧ p 1 ∧ p 2 ∧ p 3 ∧ p 4 ∧ p 5 ∧ p 6 ∧ p 7 ∧ p 8 ∧ p 9 ∧ p 10 ∧ p 11 ∧ p 12 ∧ p 13 ∧ p 14 ∧ p 15) : ∀ i, i < 16 → p i := fun i hi => by
  obtain ⟨h0, h1, h2, h3, h4, h5, h6, h7, h8, h9, h10, h11, h12, h13, h14, h15⟩ := h
  match i, hi with
  | 0, _ => exact h0
  | 1, _ => exact h1
  | 2, _ => exact h2
  | 3, _ => exact h3
  | 4, _ => exact h4
  | 5, _ => exact h5
  | 6, _ => exact h6
  | 7, _ => exact h7
  | 8, _ => exact h8
  | 9, _ => exact h9
  | 10, _ => exact h10
  | 11, _ => exact h11
  | 12, _ => exact h12
  | 13, _ => exact h13
  | 14, _ => exact h14
  | 15, _ => exact h15
  | i + 16, hi => omega
theorem and15 (n : Int) : bitZ .and .i64 n 15 = n % 16 := by
  have h1 : (BitVec.ofInt 64 n &&& BitVec.ofInt 64 15).toNat = (n % 18446744073709551616).toNat % 16 := by
    rw [BitVec.toNat_and, BitVec.toNat_ofInt, show (BitVec.ofInt 64 15).toNat = 2 ^ 4 - 1 from by decide, Nat.and_two_pow_sub_one_eq_mod]
    rfl
  show IntKind.i64.wrap ((BitVec.ofInt 64 n &&& BitVec.ofInt 64 15).toNat : Int) = _
  rw [h1, wrap_in (k := .i64) (by simp only [IntKind.min, IntKind.bits, IntKind.signed]; omega) (by simp only [IntKind.max, IntKind.bits, IntKind.signed]; omega)]
  omega
theorem arW {k : IntKind} {n : Int} {K : Int → Prop} (hk : K (k.wrap n)) : ArP k n K := by rw [ArP_eq]; exact hk
theorem step_end (D : Nat → Dd) (m : Nat) (c : Nat → Int) (reg : Int) :
    FSpec Try.prog 31 [(0, some (.st [.s 2 3 0 m 0, .v (.int .i64 m), .v (.int .u32 reg)])), (1, some (.st (cellsC c))), (2, some (.ro 3 m (ddE D)))] 3 [.l (.p 0 0 0 0), .l (.p 1 0 0 0)] fun x h n =>
      x = sBool false ∧ n = 3 ∧ h = [(0, some (.st [.s 2 3 0 m 0, .v (.int .i64 m), .v (.int .u32 reg)])), (1, some (.st (cellsC c)))] := by
  refine spec_of_ev Try.func31 ic31_eq (rs := [.t 4]) (by kernel_rfl) (by kernel_rfl) (by kernel_rfl) fun G hP hA => ?_
  unfold evF ic31
  conv => whnf
  (refine drawP_intro (by rw [hP]; exact follows) (by kernel_rfl) ?_; conv => whnf)
  refine dsplit (fun _ => ?_) (fun h => absurd (Int.le_refl _) h)
  conv => whnf
  (refine fin_auto ?_; conv => whnf); exact ⟨rfl, rfl, rfl, rfl, (by repeat' (first | exact trivial | exact rfl | (intro _ _; exact rfl) | (intro _ hj; exact absurd hj (Nat.not_lt_zero _)) | exact Nat.le_refl _ | exact Or.inl (Or.inl (And.intro (fun h => h) rfl)) | apply And.intro)), rfl⟩
theorem step_spec (D : Nat → Dd) (m j : Nat) (c : Nat → Int) (reg : Int) (hj : j < m) (hm : m ≤ 9223372036854775807) :
    FSpec Try.prog 31 [(0, some (.st [.s 2 3 0 m 0, .v (.int .i64 j), .v (.int .u32 reg)])), (1, some (.st (cellsC c))), (2, some (.ro 3 m (ddE D)))] 3 [.l (.p 0 0 0 0), .l (.p 1 0 0 0)] fun x h n =>
      x = sBool true ∧ n = 3 ∧ h = [(0, some (.st [.s 2 3 0 m 0, .v (.int .i64 (j + 1)), .v (.int .u32 (reg1 (D j) c reg))])), (1, some (.st (cellsC (cell1 (D j) c reg))))] := by
  refine spec_of_ev Try.func31 ic31_eq (rs := [.t 4]) (by kernel_rfl) (by kernel_rfl) (by kernel_rfl) fun G hP hA => ?_
  have hnj : nadd 0 ((j : Nat) : Int).toNat = j := by simp [nadd_eq]
  unfold evF ic31
  conv => whnf
  (refine drawP_intro (by rw [hP]; exact follows) (by kernel_rfl) ?_; conv => whnf)
  refine dsplit (fun h => by omega) (fun _ => ?_)
  conv => whnf
  (refine drawP_intro (by rw [hP]; exact follows) (by kernel_rfl) ?_; conv => whnf)
  (repeat' (first | (refine And.intro (by (first | omega | assumption | (simp only [nadd_eq]; omega) | (simp [nadd_eq]; omega))) ?_; conv => whnf) | (refine arI64 (by omega) (by omega) ?_; conv => whnf) | (refine arU32 (by omega) (by omega) ?_; conv => whnf) | (refine arU8 (by omega) (by omega) ?_; conv => whnf)))
  rw [hnj]
  (repeat (refine And.intro (by (conv => whnf); first | exact ⟨rfl, rfl, rfl⟩ | (refine And.intro (by omega) ?_; (conv => whnf); exact ⟨rfl, rfl, rfl⟩)) ?_; conv => whnf))
  (repeat' (first | (refine And.intro (by (first | omega | assumption | (simp only [nadd_eq]; omega) | (simp [nadd_eq]; omega))) ?_; conv => whnf) | (refine arI64 (by omega) (by omega) ?_; conv => whnf) | (refine arU32 (by omega) (by omega) ?_; conv => whnf) | (refine arU8 (by omega) (by omega) ?_; conv => whnf)))
  rw [and15]
  obtain ⟨i, hi, hie⟩ : ∃ i : Nat, i < 16 ∧ (D j).c % 16 = (i : Int) := ⟨((D j).c % 16).toNat, by omega, by omega⟩
  have hix : idx (D j) = i := by unfold idx; omega
  rw [hie]
  (refine join_plain ?_; conv => whnf)
  refine dsplit (fun h1 => ?_) (fun h1 => ?_)
  · have hc : cell1 (D j) c reg = c := by unfold cell1; rw [if_neg (by omega)]
    have hr : reg1 (D j) c reg = c i := by unfold reg1; rw [if_pos h1, hix]
    rw [hc, hr]
    rcases (show i = 0 ∨ i = 1 ∨ i = 2 ∨ i = 3 ∨ i = 4 ∨ i = 5 ∨ i = 6 ∨ i = 7 ∨ i = 8 ∨ i = 9 ∨ i = 10 ∨ i = 11 ∨ i = 12 ∨ i = 13 ∨ i = 14 ∨ i = 15 from by omega) with rfl | rfl | rfl | rfl | rfl | rfl | rfl | rfl | rfl | rfl | rfl | rfl | rfl | rfl | rfl | rfl
    all_goals ((conv => whnf); (repeat' (first | (refine And.intro (by (first | omega | assumption | (simp only [nadd_eq]; omega) | (simp [nadd_eq]; omega))) ?_; conv => whnf) | (refine arI64 (by omega) (by omega) ?_; conv => whnf) | (refine arU32 (by omega) (by omega) ?_; conv => whnf) | (refine arU8 (by omega) (by omega) ?_; conv => whnf))); (refine fin_auto ?_; conv => whnf); exact ⟨rfl, rfl, rfl, rfl, (by repeat' (first | exact trivial | exact rfl | (intro _ _; exact rfl) | (intro _ hj; exact absurd hj (Nat.not_lt_zero _)) | exact Nat.le_refl _ | exact Or.inl (Or.inl (And.intro (fun h => h) rfl)) | apply And.intro)), rfl⟩)
  · conv => whnf
    refine dsplit (fun h2 => ?_) (fun h2 => ?_)
    · have hc : cell1 (D j) c reg = c := by unfold cell1; rw [if_neg (by omega)]
      have hr : reg1 (D j) c reg = wr (reg + (D j).n) := by unfold reg1; rw [if_neg h1, if_pos h2]
      rw [hc, hr]
      conv => whnf
      (refine drawP_intro (by rw [hP]; exact follows) (by kernel_rfl) ?_; conv => whnf)
      refine arW ?_
      conv => whnf
      (repeat (refine And.intro (by (conv => whnf); first | exact ⟨rfl, rfl, rfl⟩ | (refine And.intro (by omega) ?_; (conv => whnf); exact ⟨rfl, rfl, rfl⟩)) ?_; conv => whnf))
      (refine fin_auto ?_; conv => whnf); exact ⟨rfl, rfl, rfl, rfl, (by repeat' (first | exact trivial | exact rfl | (intro _ _; exact rfl) | (intro _ hj; exact absurd hj (Nat.not_lt_zero _)) | exact Nat.le_refl _ | exact Or.inl (Or.inl (And.intro (fun h => h) rfl)) | apply And.intro)), rfl⟩
    · conv => whnf
      refine dsplit (fun h3 => ?_) (fun h3 => ?_)
      · have hc : cell1 (D j) c reg = c := by unfold cell1; rw [if_neg (by omega)]
        have hr : reg1 (D j) c reg = wr (reg * (D j).n) := by unfold reg1; rw [if_neg h1, if_neg h2, if_pos h3]
        rw [hc, hr]
        conv => whnf
        (refine drawP_intro (by rw [hP]; exact follows) (by kernel_rfl) ?_; conv => whnf)
        refine arW ?_
        conv => whnf
        (repeat (refine And.intro (by (conv => whnf); first | exact ⟨rfl, rfl, rfl⟩ | (refine And.intro (by omega) ?_; (conv => whnf); exact ⟨rfl, rfl, rfl⟩)) ?_; conv => whnf))
        (refine fin_auto ?_; conv => whnf); exact ⟨rfl, rfl, rfl, rfl, (by repeat' (first | exact trivial | exact rfl | (intro _ _; exact rfl) | (intro _ hj; exact absurd hj (Nat.not_lt_zero _)) | exact Nat.le_refl _ | exact Or.inl (Or.inl (And.intro (fun h => h) rfl)) | apply And.intro)), rfl⟩
      · conv => whnf
        have hr : reg1 (D j) c reg = reg := by unfold reg1; rw [if_neg h1, if_neg h2, if_neg h3]
        rw [hr]
        refine dsplit (fun h4 => ?_) (fun h4 => ?_)
        · have hc : cell1 (D j) c reg = upd c i reg := by unfold cell1; rw [if_pos h4, hix]
          rw [hc]
          rcases (show i = 0 ∨ i = 1 ∨ i = 2 ∨ i = 3 ∨ i = 4 ∨ i = 5 ∨ i = 6 ∨ i = 7 ∨ i = 8 ∨ i = 9 ∨ i = 10 ∨ i = 11 ∨ i = 12 ∨ i = 13 ∨ i = 14 ∨ i = 15 from by omega) with rfl | rfl | rfl | rfl | rfl | rfl | rfl | rfl | rfl | rfl | rfl | rfl | rfl | rfl | rfl | rfl
          all_goals ((conv => whnf); (refine drawP_intro (by rw [hP]; exact follows) (by kernel_rfl) ?_; conv => whnf); (repeat' (first | (refine And.intro (by (first | omega | assumption | (simp only [nadd_eq]; omega) | (simp [nadd_eq]; omega))) ?_; conv => whnf) | (refine arI64 (by omega) (by omega) ?_; conv => whnf) | (refine arU32 (by omega) (by omega) ?_; conv => whnf) | (refine arU8 (by omega) (by omega) ?_; conv => whnf))); (repeat (refine And.intro (by (conv => whnf); first | exact ⟨rfl, rfl, rfl⟩ | (refine And.intro (by omega) ?_; (conv => whnf); exact ⟨rfl, rfl, rfl⟩)) ?_; conv => whnf)); (refine fin_auto ?_; conv => whnf); exact ⟨rfl, rfl, rfl, rfl, (by repeat' (first | exact trivial | exact rfl | (intro _ _; exact rfl) | (intro _ hj; exact absurd hj (Nat.not_lt_zero _)) | exact Nat.le_refl _ | exact Or.inl (Or.inl (And.intro (fun h => h) rfl)) | apply And.intro)), rfl⟩)
        · have hc : cell1 (D j) c reg = c := by unfold cell1; rw [if_neg h4]
          rw [hc]
          conv => whnf
          (refine fin_auto ?_; conv => whnf); exact ⟨rfl, rfl, rfl, rfl, (by repeat' (first | exact trivial | exact rfl | (intro _ _; exact rfl) | (intro _ hj; exact absurd hj (Nat.not_lt_zero _)) | exact Nat.le_refl _ | exact Or.inl (Or.inl (And.intro (fun h => h) rfl)) | apply And.intro)), rfl⟩
end Go.Proofs.Ytfkhaicghoiijab
