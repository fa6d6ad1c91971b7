/- Ahead*: who is in the queue. -/
import Derived.Test.YtfkhaicghoiijacSxZ
import Derived.Test.YtfkhaicghoiijacSxC
import Derived.Test.YtfkhaicghoiijacSxV
set_option linter.unusedSimpArgs false
set_option linter.unusedVariables false
namespace Go.Proofs.Ytfkhaicghoiijac
open Go Go.Sx

theorem follows : Try.prog.follows .mixedOrders = true := by kernel_rfl
def entE (k t : Nat → Int) (a : Nat → Int) (b : Nat → Bool) : Nat → List Value := fun i => [.int .i64 (k i), .int .i64 (t i), .int .i64 (a i), .bool (b i)]
def inQ (k : Int) : Bool := decide (k = 2 ∨ k = 3 ∨ k = 4 ∨ k = 6)
def outQ (k : Int) : Bool := decide (k = 1 ∨ k = 5 ∨ k = 7 ∨ k = 8)
def turnM (k t : Int) (M : Int → Option Int) : Int → Option Int := if inQ k = true then mupd M t (some k) else if outQ k = true then mupd M t none else M
def turnS (k t : Int) (M : Int → Option Int) (s : Nat) : Nat := if inQ k = true then msz M t s else if outQ k = true then mszd M t s else s
def mapN (k t : Nat → Int) : Nat → Int → Option Int
  | 0 => fun _ => none
  | i + 1 => turnM (k i) (t i) (mapN k t i)
def szN (k t : Nat → Int) : Nat → Nat
  | 0 => 0
  | i + 1 => turnS (k i) (t i) (mapN k t i) (szN k t i)
def mxN (k t : Nat → Int) : Nat → Nat
  | 0 => 0
  | i + 1 => max (mxN k t i) (szN k t (i + 1))
abbrev inI (x : Int) : Prop := IntKind.i64.min ≤ x ∧ x ≤ IntKind.i64.max
theorem turn_spec (k t a : Int) (b : Bool) (M : Int → Option Int) (s : Nat) (ht : inI t) :
    FSpec Try.prog 14 [(0, some (.mp .i64 .i64 M s none))] 1 [.l (.mref 0), .a [.v (.int .i64 k), .v (.int .i64 t), .v (.int .i64 a), .v (.bool b)]] fun x h n =>
      x = .t [] ∧ n = 1 ∧ h = [(0, some (.mp .i64 .i64 (turnM k t M) (turnS k t M s) none))] := by
  have out : ∀ (M' : Int → Option Int) (s' : Nat), turnM k t M = M' → turnS k t M s = s' → ∀ {r h}, HasAll r h [(0, some (.mp .i64 .i64 M' s' none))] → HasAll r h [(0, some (.mp .i64 .i64 (turnM k t M) (turnS k t M s) none))] := fun M' s' h1 h2 r h hh => by rw [h1, h2]; exact hh
  have hin : k = 2 ∨ k = 3 ∨ k = 4 ∨ k = 6 → turnM k t M = mupd M t (some k) ∧ turnS k t M s = msz M t s := fun h => by
    have : inQ k = true := decide_eq_true h
    simp [turnM, turnS, this]
  have hout : k = 1 ∨ k = 5 ∨ k = 7 ∨ k = 8 → turnM k t M = mupd M t none ∧ turnS k t M s = mszd M t s := fun h => by
    have h1 : inQ k = false := decide_eq_false (by omega)
    have : outQ k = true := decide_eq_true h
    simp [turnM, turnS, this, h1]
  have hno : k ≠ 2 → k ≠ 3 → k ≠ 4 → k ≠ 6 → k ≠ 1 → k ≠ 5 → k ≠ 7 → k ≠ 8 → turnM k t M = M ∧ turnS k t M s = s := fun a1 a2 a3 a4 a5 a6 a7 a8 => by
    have h1 : inQ k = false := decide_eq_false (by omega)
    have h2 : outQ k = false := decide_eq_false (by omega)
    simp [turnM, turnS, h1, h2]
  refine spec_of_ev Try.func14 ic14_eq (rs := []) (by kernel_rfl) (by kernel_rfl) (by kernel_rfl) fun G hP hA => ?_
  unfold evF ic14
  conv => whnf
  (repeat' (first | (refine join_plain ?_; conv => whnf) | (refine dsplit (fun _ => ?_) (fun _ => ?_) <;> conv => whnf)))
  all_goals (repeat' (first | (refine And.intro (by (first | omega | assumption | (simp only [nadd_eq]; omega) | (simp [nadd_eq]; omega))) ?_; conv => whnf) | (refine arI64 (by omega) (by omega) ?_; conv => whnf) | (refine arU32 (by omega) (by omega) ?_; conv => whnf) | (refine arU8 (by omega) (by omega) ?_; conv => whnf)))
  all_goals ((refine fin_auto ?_; conv => whnf); refine ⟨rfl, rfl, rfl, ?_, ?_, rfl⟩)
  all_goals first
    | rfl
    | exact out _ _ (hin (by omega)).1 (hin (by omega)).2 ⟨⟨rfl, rfl, rfl, fun _ => rfl, rfl⟩, trivial⟩
    | exact out _ _ (hout (by omega)).1 (hout (by omega)).2 ⟨⟨rfl, rfl, rfl, fun _ => rfl, rfl⟩, trivial⟩
    | exact out _ _ (hno (by omega) (by omega) (by omega) (by omega) (by omega) (by omega) (by omega) (by omega)).1 (hno (by omega) (by omega) (by omega) (by omega) (by omega) (by omega) (by omega) (by omega)).2 ⟨⟨rfl, rfl, rfl, fun _ => rfl, rfl⟩, trivial⟩
end Go.Proofs.Ytfkhaicghoiijac
