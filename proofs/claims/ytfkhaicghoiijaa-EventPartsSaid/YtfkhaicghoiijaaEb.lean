/- EventEncodes, EventParts: bytes and events. -/
import Derived.Test.YtfkhaicghoiijaaEa
namespace Go.Proofs.Ytfkhaicghoiijaa
open Go Go.Sx

theorem and7 {b : Nat} (h : b < 256) : bitZ .and .u8 (b : Int) 7 = ((b % 8 : Nat) : Int) := by
  have : ∀ b : Fin 256, bitZ .and .u8 ((b.val : Nat) : Int) 7 = ((b.val % 8 : Nat) : Int) := by decide +kernel
  exact this ⟨b, h⟩
theorem or8 {t c : Nat} (ht : t ≤ 31) (hc : c < 8) : bitZ .or .u8 (8 * (t : Int)) (c : Int) = ((8 * t + c : Nat) : Int) := by
  have : ∀ (t : Fin 32) (c : Fin 8), bitZ .or .u8 (8 * ((t.val : Nat) : Int)) ((c.val : Nat) : Int) = ((8 * t.val + c.val : Nat) : Int) := by decide +kernel
  exact this ⟨t, by omega⟩ ⟨c, hc⟩
theorem shl3 {t : Int} {K : Int → Prop} (h0 : 0 ≤ t) (h1 : t ≤ 31) (hk : K (8 * t)) : ShlP .i64 t 3 K := by
  rw [ShlP_eq]
  refine ⟨by decide, ?_⟩
  have : min (3 : Int).toNat IntKind.i64.bits = 3 := by decide
  rw [this, wrap_in (k := .i64) (by simp only [IntKind.min, IntKind.bits, IntKind.signed]; omega) (by simp only [IntKind.max, IntKind.bits, IntKind.signed]; omega)]
  rw [show t * 2 ^ 3 = 8 * t by omega]; exact hk
theorem shr3 {b : Nat} {K : Int → Prop} (hk : K ((b / 8 : Nat) : Int)) : ShrP .u8 (b : Int) 3 K := by
  rw [ShrP_eq]
  refine ⟨by decide, ?_⟩
  have : min (3 : Int).toNat IntKind.u8.bits = 3 := by decide
  rw [this]
  rw [show ((b : Int)).fdiv (2 ^ 3) = ((b / 8 : Nat) : Int) by rw [Int.fdiv_eq_ediv_of_nonneg _ (by decide)]; rfl]; exact hk

structure Ev where
  k : Int
  t : Int
  w : Int
def evRow (e : Ev) : List Value := [.int .i64 e.k, .int .i64 e.t, .int .i64 e.w]
def evsE (f : Nat → Ev) : Nat → List Value := fun i => evRow (f i)
def bytesE (l : List Nat) : Nat → List Value := fun i => [.int .u8 ((l.getD i 0 : Nat) : Int)]
/-- One byte. -/
def oneE (b : Nat) : Ev := if b % 8 = 4 then ⟨2, 0, 0⟩ else if b % 8 = 5 then ⟨3, (b / 8 : Nat), -1⟩ else if b % 8 = 6 then ⟨3, (b / 8 : Nat), 0⟩ else if b % 8 = 7 then ⟨4, (b / 8 : Nat), 0⟩ else ⟨1, (b / 8 : Nat), 0⟩
theorem one_fin {l : Nat → Nat} {k t w : Int} {c d : Bool} {e : Ev} (h : k = e.k ∧ t = e.t ∧ w = e.w ∧ c = d) : packR ([] ++ [.a [.v (.int .i64 k), .v (.int .i64 t), .v (.int .i64 w)]] ++ [.l (.v (.bool c))]) = SV.ren l (.t [evL e.k e.t e.w, .l (.v (.bool d))]) := by
  obtain ⟨rfl, rfl, rfl, rfl⟩ := h; rfl
theorem one_spec (b : Nat) (hb : b < 256) : FSpec Try.prog 21 [] 0 [.l (.v (.int .u8 (b : Int)))] fun x h m => x = .t [evL (oneE b).k (oneE b).t (oneE b).w, .l (.v (.bool (decide (b % 8 = 6))))] ∧ m = 0 ∧ h = [] := by
  refine spec_of_ev Try.func21 ic21_eq (rs := [.ca 2 3, .t 3]) (by kernel_rfl) (by kernel_rfl) (by kernel_rfl) fun G hP hA => ?_
  unfold evF ic21
  conv => whnf
  refine shr3 ?_
  conv => whnf
  (repeat' (first | (refine And.intro (by (first | omega | (simp only [nadd_eq]; omega) | (simp [nadd_eq]; omega))) ?_; conv => whnf) | (refine arI64 (by omega) (by omega) ?_; conv => whnf) | (refine arU32 (by omega) (by omega) ?_; conv => whnf) | (refine arU8 (by omega) (by omega) ?_; conv => whnf)))
  rw [and7 hb]
  (repeat' (first | (refine join_plain ?_; conv => whnf) | (refine dsplit (fun _ => ?_) (fun _ => ?_) <;> conv => whnf)))
  all_goals ((refine fin_auto ?_; conv => whnf); refine ⟨rfl, rfl, rfl, one_fin ?_, (by repeat' (first | exact trivial | exact rfl | (intro _ _; exact rfl) | (intro _ hj; exact absurd hj (Nat.not_lt_zero _)) | exact Nat.le_refl _ | exact Or.inl (And.intro (fun h => h) rfl) | apply And.intro)), rfl⟩)
  all_goals (unfold oneE; repeat' split)
  all_goals (first | (exfalso; omega) | (refine ⟨rfl, rfl, rfl, ?_⟩; first | exact (decide_eq_false (by omega)).symm | exact (decide_eq_true (by omega)).symm))
end Go.Proofs.Ytfkhaicghoiijaa
