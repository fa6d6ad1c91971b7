/- Locks: homes looked through; seats and plans, made. · Locks: plans. · Locks: a word of a plan; what a home may not be; a lock of Craig, Landin and Hagersten, made. · Locks: memories, caches, ports, made. · Locks: caches and ports, made. · Locks: a lock of Craig, Landin and Hagersten is given its port. · Locks: a configuration laid and built (a lock of Craig, Landin and Hagersten). · Locks: a lock of Mellor-Crummey and Scott, made. · Locks: a ticket lock, made. · Locks: ticket locks and locks of Mellor-Crummey and Scott, with their port; laid and built. · Locks: a hierarchical lock, made. · Locks: hierarchical locks, with their port; laid and built. · Locks: how many slots there may be. · Locks: what can't be laid isn't built. -/
import Derived.Test.YtlkfolopbehikaaGreatSxPK
import Derived.Test.YtlkfolopbehikaaGreatSxC
import Derived.Test.YtlkfolopbehikaaGreatSxV
import Derived.Test.YtlkfolopbehikaaGreatSxPM
import Derived.Test.YtlkfolopbehikaaGreatSxPN
import Derived.Test.YtlkfolopbehikaaGreatSxPQ
set_option linter.unusedSimpArgs false
set_option linter.unusedVariables false
namespace Go.Proofs.YtlkfolopbehikaaGreat
open Go Go.Sx

theorem follows : Tryz.prog.follows .mixedOrders = true := by kernel_rfl
def numE (h : Nat → Int) : Nat → List Value := fun i => [.int .i64 (h i)]
def badH (v : Int) : Bool := decide (v < 0) || decide (8 ≤ v)
/-- Where the first one is of which p is true; -1: there is none. -/
def findZ (p : Int → Bool) (h : Nat → Int) : Nat → Nat → Int
  | _, 0 => -1
  | i, m + 1 => if p (h i) = true then (i : Int) else findZ p h (i + 1) m
def anyZ (p : Int → Bool) (h : Nat → Int) : Nat → Bool
  | 0 => false
  | m + 1 => anyZ p h m || p (h m)
theorem anyZ_shift (p : Int → Bool) : ∀ (m : Nat) (g : Nat → Int), anyZ p g (m + 1) = (p (g 0) || anyZ p (fun j => g (j + 1)) m)
  | 0, g => by simp [anyZ]
  | m + 1, g => by rw [anyZ, anyZ_shift p m g, anyZ, Bool.or_assoc]
theorem find_any (p : Int → Bool) (h : Nat → Int) : ∀ m i, 0 ≤ findZ p h i m ↔ anyZ p (fun j => h (i + j)) m = true
  | 0, i => by simp [findZ, anyZ]
  | m + 1, i => by
    rw [anyZ_shift, findZ]
    by_cases hp : p (h i) = true
    · rw [if_pos hp]
      simp [hp]
    · rw [if_neg hp, find_any p h m (i + 1)]
      have hp' : p (h i) = false := Bool.eq_false_iff.2 hp
      simp only [Nat.add_zero, hp', Bool.false_or]
      rw [show (fun j => h (i + 1 + j)) = fun j => h (i + (j + 1)) from funext fun j => by congr 1; omega]
theorem indexf_spec (f : FuncId) (p : Int → Bool) (hf : ∀ v, FSpec Tryz.prog f [] 0 [.l (.v (.int .i64 v))] fun x h n => x = sBool (p v) ∧ n = 0 ∧ h = []) (h : Nat → Int) (m : Nat) (hm : m ≤ 1000000) :
    FSpec Tryz.prog 151 [(0, some (.ro 1 m (numE h)))] 1 [.l (.s 0 1 0 m 0), .l (.c f [])] fun x h' n => x = sInt .i64 (findZ p h 0 m) ∧ n = 1 ∧ h' = [] := by
  refine spec_of_ev Tryz.func151 ic151_eq (rs := [.t 4]) (by kernel_rfl) (by kernel_rfl) (by kernel_rfl) fun G hP hA => ?_
  unfold evF ic151
  conv => whnf
  refine loop_auto (α := Nat) (ds := []) (N := 1) (fun i => [(8, sInt .i64 (i : Int))]) [] (fun _ => [])
    (fun i => i ≤ m ∧ findZ p h 0 m = findZ p h i (m - i)) (fun i => m - i) 0 ⟨Nat.zero_le _, rfl⟩ ?_ fun i hi => ?_
  · (conv => whnf); (refine imp_auto hA ?_; conv => whnf); exact ⟨rfl, rfl, rfl, regs_a, has_a, rfl⟩
  · obtain ⟨hi0, hi1⟩ := hi
    have hni : nadd 0 ((i : Nat) : Int).toNat = i := by simp [nadd_eq]
    conv => whnf
    refine dsplit (fun h1 => ?_) (fun h1 => ?_)
    · have hfi := hf (h i)
      have hst : findZ p h i (m - i) = if p (h i) = true then (i : Int) else findZ p h (i + 1) (m - (i + 1)) := by
        rw [show m - i = (m - (i + 1)) + 1 by omega]; rfl
      conv => whnf
      (repeat' (first | (refine And.intro (by (first | omega | assumption | (simp only [nadd_eq]; omega) | (simp [nadd_eq]; omega))) ?_; conv => whnf) | (refine arI64 (by omega) (by omega) ?_; conv => whnf) | (refine arU32 (by omega) (by omega) ?_; conv => whnf) | (refine arU8 (by omega) (by omega) ?_; conv => whnf)))
      rw [hni]
      conv => whnf
      (refine call_auto hP (hfi) ?_; conv => whnf); (refine ⟨⟨rfl, rfl, rfl, has_a, rfl, rfl⟩, ?_⟩; conv => whnf)
      refine bsplit (fun h2 => ?_) (fun h2 => ?_)
      · conv => whnf
        (refine fin_auto ?_; conv => whnf); refine ⟨rfl, rfl, rfl, int_fin ?_, has_a, rfl⟩
        rw [hi1, hst, if_pos h2]
      · conv => whnf
        (repeat' (first | (refine And.intro (by (first | omega | assumption | (simp only [nadd_eq]; omega) | (simp [nadd_eq]; omega))) ?_; conv => whnf) | (refine arI64 (by omega) (by omega) ?_; conv => whnf) | (refine arU32 (by omega) (by omega) ?_; conv => whnf) | (refine arU8 (by omega) (by omega) ?_; conv => whnf)))
        refine ⟨i + 1, ⟨by omega, ?_⟩, by omega, ?_⟩
        · rw [hi1, hst, if_neg (by rw [h2]; simp)]
        · (conv => whnf); (refine imp_auto hA ?_; conv => whnf); exact ⟨rfl, rfl, rfl, regs_a, has_a, rfl⟩
    · obtain rfl : i = m := by omega
      conv => whnf
      (refine fin_auto ?_; conv => whnf); refine ⟨rfl, rfl, rfl, int_fin ?_, has_a, rfl⟩
      rw [hi1, Nat.sub_self]
      rfl
theorem containsf_spec (f : FuncId) (p : Int → Bool) (hf : ∀ v, FSpec Tryz.prog f [] 0 [.l (.v (.int .i64 v))] fun x h n => x = sBool (p v) ∧ n = 0 ∧ h = []) (h : Nat → Int) (m : Nat) (hm : m ≤ 1000000) :
    FSpec Tryz.prog 128 [(0, some (.ro 1 m (numE h)))] 1 [.l (.s 0 1 0 m 0), .l (.c f [])] fun x h' n => x = sBool (anyZ p h m) ∧ n = 1 ∧ h' = [] := by
  have hi := indexf_spec f p hf h m hm
  have he := find_any p h m 0
  simp only [Nat.zero_add] at he
  refine spec_of_ev Tryz.func128 ic128_eq (rs := [.t 4]) (by kernel_rfl) (by kernel_rfl) (by kernel_rfl) fun G hP hA => ?_
  unfold evF ic128
  conv => whnf
  (refine call_auto hP (hi) ?_; conv => whnf); (refine ⟨⟨rfl, rfl, rfl, has_a, rfl, rfl⟩, ?_⟩; conv => whnf)
  (refine fin_auto ?_; conv => whnf); refine ⟨rfl, rfl, rfl, bool_fin ?_, has_a, rfl⟩
  rw [Bool.eq_iff_iff, decide_eq_true_iff]
  exact he
/-- A context's state and deadline. -/
def seatE (st dl : Nat → Int) : Nat → List Value := fun i => [.int .i64 (st i), .int .i64 (dl i)]
def seatH (n : Nat) (st dl : Nat → Int) (timed probed : Bool) : Heap := [(0, some (.st [.s 1 2 0 n 0, .v (.bool timed), .v (.bool probed)])), (1, some (.ar 2 n (seatE st dl)))]
def seatP (n : Nat) (st dl : Nat → Int) (timed probed : Bool) : Ent := .ob [] (PackR (seatH n st dl timed probed) 2)
theorem seatNew_bad (n : Int) (a b : Bool) (hn : n < 1 ∨ 64 < n) : FSpec Tryz.prog 127 [] 0 [.l (.v (.int .i64 n)), .l (.v (.bool a)), .l (.v (.bool b))] fun x h k => x = .t [.l (.v (.pointer none)), .l (.v (.int .i64 1))] ∧ k = 0 ∧ h = [] := by
  refine spec_of_ev Tryz.func127 ic127_eq (rs := [.t 6, .t 7]) (by kernel_rfl) (by kernel_rfl) (by kernel_rfl) fun G hP hA => ?_
  unfold evF ic127
  conv => whnf
  refine dsplit (fun h1 => ?_) (fun h1 => ?_)
  · conv => whnf
    (refine fin_auto ?_; conv => whnf); exact ⟨rfl, rfl, rfl, rfl, has_a, rfl⟩
  · conv => whnf
    refine dsplit (fun h2 => ?_) (fun h2 => absurd h2 (by omega))
    conv => whnf
    (refine fin_auto ?_; conv => whnf); exact ⟨rfl, rfl, rfl, rfl, has_a, rfl⟩
theorem seatNew_ok (n : Nat) (a b : Bool) (hn : 1 ≤ n ∧ n ≤ 64) : FSpec Tryz.prog 127 [] 0 [.l (.v (.int .i64 n)), .l (.v (.bool a)), .l (.v (.bool b))] fun x h k =>
    x = .t [.l (.p 0 0 0 0), .l (.v (.int .i64 0))] ∧ k = 1 ∧ h = [(0, some (seatP n (fun _ => 0) (fun _ => -1) a b))] := by
  refine spec_of_ev Tryz.func127 ic127_eq (rs := [.t 6, .t 7]) (by kernel_rfl) (by kernel_rfl) (by kernel_rfl) fun G hP hA => ?_
  unfold evF ic127
  conv => whnf
  refine dsplit (fun h1 => absurd h1 (by omega)) (fun h1 => ?_)
  conv => whnf
  refine dsplit (fun h2 => absurd h2 (by omega)) (fun h2 => ?_)
  conv => whnf
  (repeat' (first | (refine And.intro (by (first | omega | assumption | (simp only [nadd_eq]; omega) | (simp [nadd_eq]; omega))) ?_; conv => whnf) | (refine arI64 (by omega) (by omega) ?_; conv => whnf) | (refine arU32 (by omega) (by omega) ?_; conv => whnf) | (refine arU8 (by omega) (by omega) ?_; conv => whnf)))
  refine loop_auto (α := Nat) (ds := []) (N := 2) (fun i => [(27, sInt .i64 (i : Int))]) [] (fun i => [(0, some (.ar 2 n (seatE (fun _ => 0) fun j => if j < i then -1 else 0)))])
    (fun i => i ≤ n) (fun i => n - i) 0 (Nat.zero_le _) ?_ fun i hi => ?_
  · (conv => whnf); (refine imp_auto hA ?_; conv => whnf); exact ⟨rfl, rfl, rfl, regs_a, has_a, rfl⟩
  · have hni : nadd 0 ((i : Nat) : Int).toNat = i := by simp [nadd_eq]
    conv => whnf
    refine dsplit (fun h3 => ?_) (fun h3 => ?_)
    · replace h3 : (i : Int) < (n : Int) := h3
      conv => whnf
      (repeat' (first | (refine And.intro (by (first | omega | assumption | (simp only [nadd_eq]; omega) | (simp [nadd_eq]; omega))) ?_; conv => whnf) | (refine arI64 (by omega) (by omega) ?_; conv => whnf) | (refine arU32 (by omega) (by omega) ?_; conv => whnf) | (refine arU8 (by omega) (by omega) ?_; conv => whnf)))
      rw [hni]
      refine ⟨i + 1, by omega, by omega, ?_⟩
      (conv => whnf); (refine imp_auto hA ?_; conv => whnf); refine ⟨rfl, rfl, rfl, regs_a, ?_, rfl⟩
      refine And.intro (And.intro rfl (And.intro rfl fun j hj => ?_)) has_a
      by_cases hji : j = i
      · subst hji
        simp only [mrgL, mrg_eq, if_true, setMany, setL, seatE, Nat.lt_succ_self]
      · have e1 : (j < i + 1) ↔ (j < i) := by omega
        simp only [mrgL, mrg_eq, if_neg hji, setMany, setL, seatE, e1]
    · replace h3 : ¬ (i : Int) < (n : Int) := h3
      obtain rfl : i = n := by omega
      conv => whnf
      (refine fin_close (H := seatH i (fun _ => 0) (fun _ => -1) a b) (np := 2) 1 0 (Nat.le_of_ble_eq_true rfl) ?_; conv => whnf); (refine ⟨⟨rfl, by omega, rfl, rfl, ?_, rfl⟩, ?_⟩)
      · refine ⟨rfl, ⟨rfl, rfl, fun j hj => ?_⟩, trivial⟩
        simp only [seatE, if_pos hj]
      (refine fin_auto ?_; conv => whnf); exact ⟨rfl, rfl, rfl, rfl, has_a, rfl⟩
end Go.Proofs.YtlkfolopbehikaaGreat
set_option linter.unusedSimpArgs false
set_option linter.unusedVariables false
namespace Go.Proofs.YtlkfolopbehikaaGreat
open Go Go.Sx

def wordE (w : Nat → Int) : Nat → List Value := fun i => [.int .u32 (w i)]
/-- A plan: how many threads, how many words, their homes, and they themselves. -/
def planH (th : Int) (m : Nat) (hs ws : Nat → Int) : Heap := [(0, some (.st [.v (.int .i64 th), .s 1 1 0 m 0, .s 2 1 0 m 0])), (1, some (.ar 1 m (numE hs))), (2, some (.ar 1 m (wordE ws)))]
def planP (th : Int) (m : Nat) (hs ws : Nat → Int) : Ent := .ob [] (PackR (planH th m hs ws) 3)
theorem planNew_spec (th : Int) (hs ws : Nat → Int) : FSpec Tryz.prog 63 [] 0 [.l (.v (.int .i64 th))] fun x h n => x = .o (.l (.p 0 0 0 0)) ∧ n = 1 ∧ h = [(0, some (planP th 0 hs ws))] := by
  refine spec_of_ev Tryz.func63 ic63_eq (rs := [.t 2]) (by kernel_rfl) (by kernel_rfl) (by kernel_rfl) fun G hP hA => ?_
  unfold evF ic63
  conv => whnf
  refine finP_ghost (GSpec.nilc 0 1 1 (numE hs) rfl rfl) (Nat.zero_le _) ?_
  refine finP_ghost (GSpec.nilc 0 2 1 (wordE ws) rfl rfl) (Nat.zero_le _) ?_
  (refine fin_close (H := planH th 0 hs ws) (np := 3) 0 0 (Nat.le_of_ble_eq_true rfl) ?_; conv => whnf); (refine ⟨⟨rfl, by omega, rfl, rfl, has_a, rfl⟩, ?_⟩)
  (refine fin_auto ?_; conv => whnf); exact ⟨rfl, rfl, rfl, rfl, has_a, rfl⟩
def tailF (f : Nat → Int) (m : Nat) (v : Int) : Nat → Int := fun i => if i < m then f i else v
theorem tail_snoc (f : Nat → Int) (m : Nat) (v : Int) (q : Nat) {g : Int → List Value} : ∀ j, j < m + (q + 1) → (if j < m + q then g (tailF f m v j) else g v) = g (tailF f m v j) := fun j hj => by
  by_cases h : j < m + q
  · rw [if_pos h]
  · rw [if_neg h]; unfold tailF; rw [if_neg (by omega)]
set_option maxHeartbeats 1000000 in
theorem row_spec (th : Int) (m : Nat) (hs ws : Nat → Int) (n home v : Int) (q : Nat) (hq : (q : Int) = min (max n 0) 4097) (hm : m ≤ 1000000) :
    FSpec Tryz.prog 136 [(0, some (planP th m hs ws))] 1 [.l (.p 0 0 0 0), .l (.v (.int .i64 n)), .l (.v (.int .i64 home)), .l (.v (.int .u32 v))] fun x h k =>
      x = sInt .i64 (m : Int) ∧ k = 1 ∧ h = [(0, some (planP th (m + q) (tailF hs m home) (tailF ws m v)))] := by
  refine spec_of_ev_g (open_spec (planH th m hs ws) 3 0 (by omega)) Tryz.func136 ic136_eq (rs := [.t 8]) (by kernel_rfl) (by kernel_rfl) (by kernel_rfl) fun G hP hA => ?_
  unfold evF ic136
  have h0 : q ≤ 4097 := by omega
  conv => whnf
  rw [← hq]
  refine loop_auto (α := Nat) (ds := []) (N := 5) (fun i => [(18, sInt .i64 (i : Int))]) []
    (fun i => [(1, none), (2, none), (0, some (.st [.v (.int .i64 th), .s 3 1 0 (m + i) 0, .s 4 1 0 (m + i) 0])), (3, some (.ar 1 (m + i) (numE (tailF hs m home)))), (4, some (.ar 1 (m + i) (wordE (tailF ws m v))))])
    (fun i => i ≤ q) (fun i => q - i) 0 (Nat.zero_le _) ?_ fun i hi => ?_
  · (conv => whnf); (refine imp_auto hA ?_; conv => whnf); refine ⟨rfl, rfl, rfl, regs_a, ?_, rfl⟩
    refine ⟨rfl, ⟨rfl, rfl, fun j hj => ?_⟩, ⟨rfl, rfl, fun j hj => ?_⟩, trivial⟩
    · simp only [numE, tailF, if_pos (show j < m from hj)]
    · simp only [wordE, tailF, if_pos (show j < m from hj)]
  · conv => whnf
    refine dsplit (fun h1 => ?_) (fun h1 => ?_)
    · replace h1 : (i : Int) < (q : Int) := h1
      conv => whnf
      (repeat' (first | (refine And.intro (by (first | omega | assumption | (simp only [nadd_eq]; omega) | (simp [nadd_eq]; omega))) ?_; conv => whnf) | (refine arI64 (by omega) (by omega) ?_; conv => whnf) | (refine arU32 (by omega) (by omega) ?_; conv => whnf) | (refine arU8 (by omega) (by omega) ?_; conv => whnf)))
      refine ⟨i + 1, by omega, by omega, ?_⟩
      (conv => whnf); (refine imp_auto hA ?_; conv => whnf); refine ⟨rfl, rfl, rfl, regs_a, ?_, rfl⟩
      refine ⟨rfl, ⟨rfl, rfl, fun j hj => ?_⟩, ⟨rfl, rfl, fun j hj => ?_⟩, trivial⟩
      · exact tail_snoc hs m home i (g := fun v => [.int .i64 v]) j hj
      · exact tail_snoc ws m v i (g := fun v => [.int .u32 v]) j hj
    · replace h1 : ¬ (i : Int) < (q : Int) := h1
      obtain rfl : i = q := by omega
      conv => whnf
      (refine fin_close (H := (planH th (m + i) (tailF hs m home) (tailF ws m v))) (np := 3) 0 0 (Nat.le_of_ble_eq_true rfl) ?_; conv => whnf); (refine ⟨⟨rfl, by omega, rfl, rfl, has_a, rfl⟩, ?_⟩)
      (refine fin_auto ?_; conv => whnf); exact ⟨rfl, rfl, rfl, rfl, has_a, rfl⟩
end Go.Proofs.YtlkfolopbehikaaGreat
set_option linter.unusedSimpArgs false
set_option linter.unusedVariables false
namespace Go.Proofs.YtlkfolopbehikaaGreat
open Go Go.Sx

theorem word_spec (th : Int) (m : Nat) (hs ws : Nat → Int) (home v : Int) (hm : m ≤ 1000000) :
    FSpec Tryz.prog 130 [(0, some (planP th m hs ws))] 1 [.l (.p 0 0 0 0), .l (.v (.int .i64 home)), .l (.v (.int .u32 v))] fun x h k =>
      x = sInt .i64 (m : Int) ∧ k = 1 ∧ h = [(0, some (planP th (m + 1) (tailF hs m home) (tailF ws m v)))] := by
  have hr := row_spec th m hs ws 1 home v 1 (by omega) hm
  refine spec_of_ev Tryz.func130 ic130_eq (rs := [.t 6]) (by kernel_rfl) (by kernel_rfl) (by kernel_rfl) fun G hP hA => ?_
  unfold evF ic130
  conv => whnf
  (refine call_auto hP (hr) ?_; conv => whnf); (refine ⟨⟨rfl, rfl, rfl, has_a, rfl, rfl⟩, ?_⟩; conv => whnf)
  (refine fin_auto ?_; conv => whnf); exact ⟨rfl, rfl, rfl, rfl, has_a, rfl⟩
theorem badClh_spec (v : Int) : FSpec Tryz.prog 134 [] 0 [.l (.v (.int .i64 v))] fun x h n => x = sBool (badH v) ∧ n = 0 ∧ h = [] := by
  refine spec_of_ev Tryz.func134 ic134_eq (rs := [.t 2]) (by kernel_rfl) (by kernel_rfl) (by kernel_rfl) fun G hP hA => ?_
  unfold evF ic134
  conv => whnf
  (repeat' (first | (refine join_plain ?_; conv => whnf) | (refine dsplit (fun _ => ?_) (fun _ => ?_) <;> conv => whnf)))
  all_goals (((refine fin_auto ?_; conv => whnf); refine ⟨rfl, rfl, rfl, bool_fin ?_, has_a, rfl⟩); unfold badH; rw [Bool.eq_iff_iff]; simp; omega)
def clhE (no ah sp : Nat → Int) : Nat → List Value := fun i => [.int .i64 (no i), .int .i64 (ah i), .int .i64 (sp i)]
/-- A lock of Craig, Landin and Hagersten that uses no port yet. -/
def clhH0 (n : Nat) (tail : Int) (st dl no ah sp : Nat → Int) : Heap := [(0, some (.st [.p 1 0 0 0, .v (.pointer none), .v (.int .i64 tail), .s 2 3 0 n 0])), (1, some (seatP n st dl false true)), (2, some (.ar 3 n (clhE no ah sp)))]
def clhP0 (n : Nat) (tail : Int) (st dl no ah sp : Nat → Int) : Ent := .ob [] (PackR (clhH0 n tail st dl no ah sp) 3)
def snocF (f : Nat → Int) (m : Nat) (h : Nat → Int) : Nat → Nat → Int
  | 0 => f
  | i + 1 => tailF (snocF f m h i) (m + i) (h i)
def clhHs (hs : Nat → Int) (m : Nat) (h : Nat → Int) : Nat → Nat → Int := snocF (tailF (tailF hs m (h 0)) (m + 1) (h 0)) (m + 2) h
def clhWs (ws : Nat → Int) (m : Nat) : Nat → Nat → Int := snocF (tailF (tailF ws m 0) (m + 1) 0) (m + 2) fun _ => 0
theorem clhNew_bad (th : Int) (M : Nat) (hs ws h : Nat → Int) (m : Nat) (hm : m ≤ 80) (hb : m < 1 ∨ 64 < m ∨ anyZ badH h m = true) :
    FSpec Tryz.prog 107 [(0, some (planP th M hs ws)), (1, some (.ro 1 m (numE h)))] 2 [.l (.p 0 0 0 0), .l (.s 1 1 0 m 0)] fun x h' k =>
      x = .t [.l (.v (.pointer none)), .l (.v (.int .i64 1))] ∧ k = 2 ∧ h' = [(0, some (planP th M hs ws))] := by
  refine spec_of_ev Tryz.func107 ic107_eq (rs := [.t 4, .t 5]) (by kernel_rfl) (by kernel_rfl) (by kernel_rfl) fun G hP hA => ?_
  unfold evF ic107
  by_cases h1 : m < 1 ∨ 64 < m
  · have hse := seatNew_bad (m : Int) false true (by omega)
    conv => whnf
    (refine call_auto hP (hse) ?_; conv => whnf); (refine ⟨⟨rfl, rfl, rfl, has_a, rfl, rfl⟩, ?_⟩; conv => whnf)
    (refine fin_auto ?_; conv => whnf); exact ⟨rfl, rfl, rfl, rfl, has_a, rfl⟩
  · have hse := seatNew_ok m false true (by omega)
    have hcf := containsf_spec 134 badH badClh_spec h m (by omega)
    rw [show anyZ badH h m = true from by rcases hb with hb | hb | hb <;> first | exact hb | omega] at hcf
    conv => whnf
    (refine call_auto hP (hse) ?_; conv => whnf); (refine ⟨⟨rfl, rfl, rfl, has_a, rfl, rfl⟩, ?_⟩; conv => whnf)
    (refine call_auto hP (hcf) ?_; conv => whnf); (refine ⟨⟨rfl, rfl, rfl, has_a, rfl, rfl⟩, ?_⟩; conv => whnf)
    (refine fin_auto ?_; conv => whnf); exact ⟨rfl, rfl, rfl, rfl, has_a, rfl⟩
set_option maxHeartbeats 1000000 in
theorem clhNew_ok (th : Int) (M : Nat) (hs ws h : Nat → Int) (m : Nat) (hM : M ≤ 10000) (hm : 1 ≤ m ∧ m ≤ 64) (hb : anyZ badH h m = false) :
    FSpec Tryz.prog 107 [(0, some (planP th M hs ws)), (1, some (.ro 1 m (numE h)))] 2 [.l (.p 0 0 0 0), .l (.s 1 1 0 m 0)] fun x h' k =>
      x = .t [.l (.p 2 0 0 0), .l (.v (.int .i64 0))] ∧ k = 3 ∧ h' = [(0, some (planP th (M + 2 + m) (clhHs hs M h m) (clhWs ws M m))), (2, some (clhP0 m M (fun _ => 0) (fun _ => -1) (fun i => i + 1) (fun _ => 0) fun _ => 0))] := by
  have hse := seatNew_ok m false true (by omega)
  have hcf := containsf_spec 134 badH badClh_spec h m (by omega)
  rw [hb] at hcf
  have hw1 := word_spec th M hs ws (h 0) 0 (by omega)
  have hw2 := word_spec th (M + 1) (tailF hs M (h 0)) (tailF ws M 0) (h 0) 0 (by omega)
  refine spec_of_ev Tryz.func107 ic107_eq (rs := [.t 4, .t 5]) (by kernel_rfl) (by kernel_rfl) (by kernel_rfl) fun G hP hA => ?_
  unfold evF ic107
  conv => whnf
  (refine call_auto hP (hse) ?_; conv => whnf); (refine ⟨⟨rfl, rfl, rfl, has_a, rfl, rfl⟩, ?_⟩; conv => whnf)
  (refine call_auto hP (hcf) ?_; conv => whnf); (refine ⟨⟨rfl, rfl, rfl, has_a, rfl, rfl⟩, ?_⟩; conv => whnf)
  (repeat' (first | (refine And.intro (by (first | omega | assumption | (simp only [nadd_eq]; omega) | (simp [nadd_eq]; omega))) ?_; conv => whnf) | (refine arI64 (by omega) (by omega) ?_; conv => whnf) | (refine arU32 (by omega) (by omega) ?_; conv => whnf) | (refine arU8 (by omega) (by omega) ?_; conv => whnf)))
  (refine call_auto hP (hw1) ?_; conv => whnf); (refine ⟨⟨rfl, rfl, rfl, has_a, rfl, rfl⟩, ?_⟩; conv => whnf)
  (repeat' (first | (refine And.intro (by (first | omega | assumption | (simp only [nadd_eq]; omega) | (simp [nadd_eq]; omega))) ?_; conv => whnf) | (refine arI64 (by omega) (by omega) ?_; conv => whnf) | (refine arU32 (by omega) (by omega) ?_; conv => whnf) | (refine arU8 (by omega) (by omega) ?_; conv => whnf)))
  (refine call_auto hP (hw2) ?_; conv => whnf); (refine ⟨⟨rfl, rfl, rfl, has_a, rfl, rfl⟩, ?_⟩; conv => whnf)
  refine loop_auto (α := Nat) (ds := []) (N := 5) (fun i => [(38, sInt .i64 (i : Int))]) []
    (fun i => [(0, some (planP th (M + 2 + i) (clhHs hs M h i) (clhWs ws M i))), (3, some (.st [.p 2 0 0 0, .v (.pointer none), .v (.int .i64 M), .s 4 3 0 i 0])), (4, some (.ar 3 i (clhE (fun i => i + 1) (fun _ => 0) fun _ => 0)))])
    (fun i => i ≤ m) (fun i => m - i) 0 (Nat.zero_le _) ?_ fun i hi => ?_
  · conv => whnf
    refine Imp.trans (imp_ghost (GSpec.nilc 3 3 3 (clhE (fun i => i + 1) (fun _ => 0) fun _ => 0) rfl rfl)) ?_
    (conv => whnf); (refine imp_auto hA ?_; conv => whnf); exact ⟨rfl, rfl, rfl, regs_a, has_a, rfl⟩
  · have hni : nadd 0 ((i : Nat) : Int).toNat = i := by simp [nadd_eq]
    have hwi := word_spec th (M + 2 + i) (clhHs hs M h i) (clhWs ws M i) (h i) 0 (by omega)
    conv => whnf
    refine dsplit (fun h1 => ?_) (fun h1 => ?_)
    · conv => whnf
      (repeat' (first | (refine And.intro (by (first | omega | assumption | (simp only [nadd_eq]; omega) | (simp [nadd_eq]; omega))) ?_; conv => whnf) | (refine arI64 (by omega) (by omega) ?_; conv => whnf) | (refine arU32 (by omega) (by omega) ?_; conv => whnf) | (refine arU8 (by omega) (by omega) ?_; conv => whnf)))
      rw [hni]
      conv => whnf
      (refine call_auto hP (hwi) ?_; conv => whnf); (refine ⟨⟨rfl, rfl, rfl, has_a, rfl, rfl⟩, ?_⟩; conv => whnf)
      (repeat' (first | (refine And.intro (by (first | omega | assumption | (simp only [nadd_eq]; omega) | (simp [nadd_eq]; omega))) ?_; conv => whnf) | (refine arI64 (by omega) (by omega) ?_; conv => whnf) | (refine arU32 (by omega) (by omega) ?_; conv => whnf) | (refine arU8 (by omega) (by omega) ?_; conv => whnf)))
      refine ⟨i + 1, by omega, by omega, ?_⟩
      (conv => whnf); (refine imp_auto hA ?_; conv => whnf); refine ⟨rfl, rfl, rfl, regs_a, ?_, rfl⟩
      refine ⟨has_a, rfl, ⟨rfl, rfl, fun j hj => ?_⟩, has_a⟩
      refine snoc_rows (f := clhE (fun i => i + 1) (fun _ => 0) fun _ => 0) (i := i) rfl j hj
    · obtain rfl : i = m := by omega
      conv => whnf
      (refine fin_close (H := (clhH0 i M (fun _ => 0) (fun _ => -1) (fun i => i + 1) (fun _ => 0) fun _ => 0)) (np := 3) 3 0 (Nat.le_of_ble_eq_true rfl) ?_; conv => whnf); (refine ⟨⟨rfl, by omega, rfl, rfl, has_a, rfl⟩, ?_⟩)
      (refine fin_auto ?_; conv => whnf); exact ⟨rfl, rfl, rfl, rfl, has_a, rfl⟩
end Go.Proofs.YtlkfolopbehikaaGreat
set_option linter.unusedSimpArgs false
set_option linter.unusedVariables false
namespace Go.Proofs.YtlkfolopbehikaaGreat
open Go Go.Sx

theorem extStore : ExtA Tryz.prog 174 Extern.Atomic.storeT := ⟨_, Tryz.func174, by kernel_rfl, by kernel_rfl, by kernel_rfl, by kernel_rfl⟩
def memH (n : Nat) (ws hs : Nat → Int) : Heap := [(0, some (.st [.s 1 1 0 n 0, .s 2 1 0 n 0])), (1, some (.ar 1 n (wordE ws))), (2, some (.ar 1 n (numE hs)))]
def memP (n : Nat) (ws hs : Nat → Int) : Ent := .ob [] (PackR (memH n ws hs) 3)
def updF (f : Nat → Int) (i : Nat) (v : Int) : Nat → Int := fun j => if j = i then v else f j
theorem updE (f : Nat → Int) (i : Nat) (v : Int) (j : Nat) : mrgL (j = i) (setMany (wordE f j) 0 [.int .u32 v]) (wordE f j) = wordE (updF f i v) j := by
  simp only [wordE, updF, setMany, setL, mrgL, mrg_eq]
  by_cases h : j = i <;> simp [h]
theorem astore_spec (n i : Nat) (ws : Nat → Int) (v : Int) (hi : i < n) :
    FSpec Tryz.prog 161 [(0, some (.ar 1 n (wordE ws)))] 1 [.l (.p 0 1 i 0), .l (.v (.int .u32 v))] fun x h k => x = .t [] ∧ k = 1 ∧ h = [(0, some (.ar 1 n (wordE (updF ws i v))))] := by
  refine spec_of_ev Tryz.func161 ic161_eq (rs := []) (by kernel_rfl) (by kernel_rfl) (by kernel_rfl) fun G hP hA => ?_
  unfold evF ic161
  conv => whnf
  refine esc_astore (q := .u32) (hP ▸ extStore) rfl rfl rfl hi (by omega) ⟨_, rfl⟩ ?_
  conv => whnf
  refine ⟨hi, ?_⟩
  conv => whnf
  (refine fin_auto ?_; conv => whnf); refine ⟨rfl, rfl, rfl, ?_, ?_, rfl⟩
  · rfl
  · refine ⟨⟨rfl, rfl, fun j hj => updE ws i v j⟩, trivial⟩
theorem cloneI_spec (f : Nat → List Value) (m : Nat) (hm : m ≤ 1000000) :
    FSpec Tryz.prog 159 [(0, some (.ro 1 m f))] 1 [.l (.s 0 1 0 m 0)] fun x h n => x = .o (.l (.s 1 1 0 m 0)) ∧ n = 2 ∧ h = [(1, some (.ar 1 m f))] := by
  refine FSpec.nil_ret (Q := fun x h n => (x = .o (.l (.s 1 1 0 m 0)) ∧ n = 2 ∧ h = [(1, some (.ar 1 m f))]) ∨ (m = 0 ∧ x = .o (.l (.v (.slice none 0 0))) ∧ n = 1 ∧ h = [])) ?_ ?_
  · refine spec_of_ev Tryz.func159 ic159_eq (rs := [.t 2]) (by kernel_rfl) (by kernel_rfl) (by kernel_rfl) fun G hP hA => ?_
    unfold evF ic159
    conv => whnf
    refine esc_isnil (el := 3) (by rw [hP]; kernel_rfl) rfl fun b hb => ?_
    conv => whnf
    refine bsplit (fun h => ?_) (fun h => ?_)
    · conv => whnf
      exact finP_intro [0] (.o (.l (.v (.slice none 0 0)))) [] 1 rfl (.inr ⟨hb h, rfl, rfl, rfl⟩) rfl rfl rfl trivial rfl
    · conv => whnf
      (repeat' (first | (refine And.intro (by (first | omega | assumption | (simp only [nadd_eq]; omega) | (simp [nadd_eq]; omega))) ?_; conv => whnf) | (refine arI64 (by omega) (by omega) ?_; conv => whnf) | (refine arU32 (by omega) (by omega) ?_; conv => whnf) | (refine arU8 (by omega) (by omega) ?_; conv => whnf)))
      refine finP_intro [0, 2] (.o (.l (.s 1 1 0 m 0))) [(1, some (.ar 1 m f))] 2 rfl (.inl ⟨rfl, rfl, rfl⟩) rfl rfl ?_ ?_ rfl
      · show SV.o (.l (.s 2 1 0 (0 + m) 0)) = _
        rw [Nat.zero_add]; rfl
      · refine ⟨?_, trivial⟩
        show EntLe _ (.ar 1 (0 + m) _) _
        refine ⟨rfl, Nat.zero_add m, fun i hi => ?_⟩
        simp [nadd_eq]
  · intro x h n hx
    rcases hx with ⟨rfl, rfl, rfl⟩ | ⟨rfl, rfl, rfl, rfl⟩
    · exact .inl ⟨rfl, rfl, rfl⟩
    · exact .inr ⟨1, f, _, fun ρ h => nil_at ρ h, fun ρ D hD h _ => nil_ok ρ D hD h, rfl, rfl, rfl⟩
theorem memAt_in (n i : Nat) (ws hs : Nat → Int) (hi : i < n) (hn : n ≤ 1000000) :
    FSpec Tryz.prog 160 (memH n ws hs) 3 [.l (.p 0 0 0 0), .l (.v (.int .i64 i))] fun x h k => x = .o (.l (.p 1 1 i 0)) ∧ k = 3 ∧ h = memH n ws hs := by
  refine spec_of_ev Tryz.func160 ic160_eq (rs := [.t 4]) (by kernel_rfl) (by kernel_rfl) (by kernel_rfl) fun G hP hA => ?_
  unfold evF ic160
  have hni : nadd 0 ((i : Nat) : Int).toNat = i := by simp [nadd_eq]
  conv => whnf
  (repeat' (first | (refine join_plain ?_; conv => whnf) | (refine dsplit (fun _ => ?_) (fun _ => ?_) <;> conv => whnf)))
  all_goals first | (exfalso; omega) | skip
  (repeat' (first | (refine And.intro (by (first | omega | assumption | (simp only [nadd_eq]; omega) | (simp [nadd_eq]; omega))) ?_; conv => whnf) | (refine arI64 (by omega) (by omega) ?_; conv => whnf) | (refine arU32 (by omega) (by omega) ?_; conv => whnf) | (refine arU8 (by omega) (by omega) ?_; conv => whnf)))
  rw [hni]
  (refine fin_auto ?_; conv => whnf); exact ⟨rfl, rfl, rfl, rfl, has_a, rfl⟩
theorem memStore_in (n i : Nat) (ws hs : Nat → Int) (v : Int) (hi : i < n) (hn : n ≤ 1000000) :
    FSpec Tryz.prog 145 [(0, some (memP n ws hs))] 1 [.l (.p 0 0 0 0), .l (.v (.int .i64 i)), .l (.v (.int .u32 v))] fun x h k => x = .t [] ∧ k = 1 ∧ h = [(0, some (memP n (updF ws i v) hs))] := by
  have ha := memAt_in n i ws hs hi hn
  have hs' := astore_spec n i ws v hi
  refine spec_of_ev_g (open_spec (memH n ws hs) 3 0 (by omega)) Tryz.func145 ic145_eq (rs := []) (by kernel_rfl) (by kernel_rfl) (by kernel_rfl) fun G hP hA => ?_
  unfold evF ic145
  conv => whnf
  (refine call_auto hP (ha) ?_; conv => whnf); (refine ⟨⟨rfl, rfl, rfl, has_a, rfl, rfl⟩, ?_⟩; conv => whnf)
  (refine call_auto hP (hs') ?_; conv => whnf); (refine ⟨⟨rfl, rfl, rfl, has_a, rfl, rfl⟩, ?_⟩; conv => whnf)
  (refine fin_close (H := (memH n (updF ws i v) hs)) (np := 3) 0 0 (Nat.le_of_ble_eq_true rfl) ?_; conv => whnf); (refine ⟨⟨rfl, by omega, rfl, rfl, has_a, rfl⟩, ?_⟩)
  (refine fin_auto ?_; conv => whnf); exact ⟨rfl, rfl, rfl, rfl, has_a, rfl⟩
theorem any_mono {p : Int → Bool} {h : Nat → Int} : ∀ {m i : Nat}, i < m → p (h i) = true → anyZ p h m = true
  | m + 1, i, hi, hp => by
    simp only [anyZ, Bool.or_eq_true]
    by_cases e : i = m
    · subst e; exact .inr hp
    · exact .inl (any_mono (by omega) hp)
theorem memNew_ok (hs : Nat → Int) (m : Nat) (hm : m ≤ 4096) (hb : anyZ badH hs m = false) : FSpec Tryz.prog 144 [(0, some (.ro 1 m (numE hs)))] 1 [.l (.s 0 1 0 m 0)] fun x h k =>
    x = .t [.l (.p 1 0 0 0), .l (.v (.int .i64 0))] ∧ k = 2 ∧ h = [(1, some (memP m (fun _ => 0) hs))] := by
  have hcl := cloneI_spec (numE hs) m (by omega)
  refine spec_of_ev Tryz.func144 ic144_eq (rs := [.t 2, .t 3]) (by kernel_rfl) (by kernel_rfl) (by kernel_rfl) fun G hP hA => ?_
  unfold evF ic144
  conv => whnf
  refine dsplit (fun h1 => absurd h1 (by omega)) (fun h1 => ?_)
  conv => whnf
  refine loop_auto (α := Nat) (ds := []) (N := 1) (fun i => [(11, sInt .i64 (i : Int))]) [] (fun _ => []) (fun i => i ≤ m) (fun i => m - i) 0 (Nat.zero_le _) ?_ fun i hi => ?_
  · (conv => whnf); (refine imp_auto hA ?_; conv => whnf); exact ⟨rfl, rfl, rfl, regs_a, has_a, rfl⟩
  · have hni : nadd 0 ((i : Nat) : Int).toNat = i := by simp [nadd_eq]
    conv => whnf
    refine dsplit (fun h2 => ?_) (fun h2 => ?_)
    · have hbi : ¬ badH (hs i) = true := fun h => by rw [any_mono (show i < m by omega) h] at hb; cases hb
      simp only [badH, Bool.or_eq_true, decide_eq_true_eq] at hbi
      conv => whnf
      (repeat' (first | (refine And.intro (by (first | omega | assumption | (simp only [nadd_eq]; omega) | (simp [nadd_eq]; omega))) ?_; conv => whnf) | (refine arI64 (by omega) (by omega) ?_; conv => whnf) | (refine arU32 (by omega) (by omega) ?_; conv => whnf) | (refine arU8 (by omega) (by omega) ?_; conv => whnf)))
      rw [hni]
      conv => whnf
      (repeat' (first | (refine join_plain ?_; conv => whnf) | (refine dsplit (fun _ => ?_) (fun _ => ?_) <;> conv => whnf)))
      all_goals first | (exfalso; omega) | skip
      (repeat' (first | (refine And.intro (by (first | omega | assumption | (simp only [nadd_eq]; omega) | (simp [nadd_eq]; omega))) ?_; conv => whnf) | (refine arI64 (by omega) (by omega) ?_; conv => whnf) | (refine arU32 (by omega) (by omega) ?_; conv => whnf) | (refine arU8 (by omega) (by omega) ?_; conv => whnf)))
      refine ⟨i + 1, by omega, by omega, ?_⟩
      (conv => whnf); (refine imp_auto hA ?_; conv => whnf); exact ⟨rfl, rfl, rfl, regs_a, has_a, rfl⟩
    · obtain rfl : i = m := by omega
      conv => whnf
      refine drawP_all (by rw [hP]; exact follows) 20 ?_
      conv => whnf
      repeat' (first | (refine And.intro (by omega) ?_; conv => whnf) | (refine And.intro ?_ ?_ <;> (conv => whnf)) | (refine call_auto hP (hcl) ?_; conv => whnf); (refine ⟨⟨rfl, rfl, rfl, has_a, rfl, rfl⟩, ?_⟩; conv => whnf))
      all_goals (refine fin_close (H := (memH i (fun _ => 0) hs)) (np := 3) 3 0 (Nat.le_of_ble_eq_true rfl) ?_; conv => whnf); (refine ⟨⟨rfl, by omega, rfl, rfl, has_a, rfl⟩, ?_⟩)
      all_goals (refine fin_auto ?_; conv => whnf); exact ⟨rfl, rfl, rfl, rfl, has_a, rfl⟩
end Go.Proofs.YtlkfolopbehikaaGreat
set_option linter.unusedSimpArgs false
set_option linter.unusedVariables false
namespace Go.Proofs.YtlkfolopbehikaaGreat
open Go Go.Sx

def copyE (c : Nat → Int) : Nat → List Value := fun i => [.int .u64 (c i)]
def pairE (a b : Nat → Int) : Nat → List Value := fun i => [.int .i64 (a i), .int .i64 (b i)]
/-- Who has a copy of which of nw words, and how many misses each of nt threads had. -/
def cacheH (nw nt : Nat) (cp ms : Nat → Int) : Heap := [(0, some (.st [.s 1 1 0 nw 0, .s 2 1 0 nt 0])), (1, some (.ar 1 nw (copyE cp))), (2, some (.ar 1 nt (numE ms)))]
def cacheP (nw nt : Nat) (cp ms : Nat → Int) : Ent := .ob [] (PackR (cacheH nw nt cp ms) 3)
theorem cacheNew_ok (nt nw : Nat) (h1 : 1 ≤ nt ∧ nt ≤ 64) (h2 : nw ≤ 4096) : FSpec Tryz.prog 146 [] 0 [.l (.v (.int .i64 nt)), .l (.v (.int .i64 nw))] fun x h k =>
    x = .t [.l (.p 0 0 0 0), .l (.v (.int .i64 0))] ∧ k = 1 ∧ h = [(0, some (cacheP nw nt (fun _ => 0) fun _ => 0))] := by
  refine spec_of_ev Tryz.func146 ic146_eq (rs := [.t 4, .t 5]) (by kernel_rfl) (by kernel_rfl) (by kernel_rfl) fun G hP hA => ?_
  unfold evF ic146
  conv => whnf
  (repeat' (first | (refine join_plain ?_; conv => whnf) | (refine dsplit (fun _ => ?_) (fun _ => ?_) <;> conv => whnf)))
  all_goals first | (exfalso; omega) | skip
  refine drawP_all (by rw [hP]; exact follows) 20 ?_
  conv => whnf
  repeat' (first | (refine And.intro (by omega) ?_; conv => whnf) | (refine And.intro ?_ ?_ <;> (conv => whnf)))
  all_goals (refine fin_close (H := (cacheH nw nt (fun _ => 0) (fun _ => 0))) (np := 3) 2 0 (Nat.le_of_ble_eq_true rfl) ?_; conv => whnf); (refine ⟨⟨rfl, by omega, rfl, rfl, has_a, rfl⟩, ?_⟩)
  all_goals (refine fin_auto ?_; conv => whnf); exact ⟨rfl, rfl, rfl, rfl, has_a, rfl⟩
/-- A port: a memory, a cache, and of each thread how many accesses and writes it had. -/
def portH (nt nw : Nat) (ws hs cp ms ac wr : Nat → Int) : Heap := [(0, some (.st [.p 1 0 0 0, .p 2 0 0 0, .s 3 2 0 nt 0])), (1, some (memP nw ws hs)), (2, some (cacheP nw nt cp ms)), (3, some (.ar 2 nt (pairE ac wr)))]
def portP (nt nw : Nat) (ws hs cp ms ac wr : Nat → Int) : Ent := .ob [] (PackR (portH nt nw ws hs cp ms ac wr) 4)
def cutF (f : Nat → Int) (i : Nat) : Nat → Int := fun j => if j < i then f j else 0
theorem cut_snoc (f : Nat → Int) (i : Nat) : updF (cutF f i) i (f i) = cutF f (i + 1) := by
  funext j
  unfold updF cutF
  by_cases h : j = i
  · subst h; simp
  · rw [if_neg h]
    by_cases h2 : j < i
    · rw [if_pos h2, if_pos (by omega)]
    · rw [if_neg h2, if_neg (by omega)]
theorem portNew_ok (nt m : Nat) (hs ws : Nat → Int) (h1 : 1 ≤ nt ∧ nt ≤ 64) (hm : m ≤ 4096) (hb : anyZ badH hs m = false) :
    FSpec Tryz.prog 112 [(0, some (.ro 1 m (numE hs))), (1, some (.ro 1 m (wordE ws)))] 2 [.l (.v (.int .i64 nt)), .l (.s 0 1 0 m 0), .l (.s 1 1 0 m 0)] fun x h k =>
      x = .t [.l (.p 2 0 0 0), .l (.v (.int .i64 0))] ∧ k = 3 ∧ h = [(2, some (portP nt m (cutF ws m) hs (fun _ => 0) (fun _ => 0) (fun _ => 0) fun _ => 0))] := by
  have hmn := memNew_ok hs m hm hb
  rw [show (fun _ => 0 : Nat → Int) = cutF ws 0 from funext fun j => by simp [cutF]] at hmn
  have hcn := cacheNew_ok nt m h1 hm
  refine spec_of_ev Tryz.func112 ic112_eq (rs := [.t 6, .t 7]) (by kernel_rfl) (by kernel_rfl) (by kernel_rfl) fun G hP hA => ?_
  unfold evF ic112
  conv => whnf
  (repeat' (first | (refine join_plain ?_; conv => whnf) | (refine dsplit (fun _ => ?_) (fun _ => ?_) <;> conv => whnf)))
  all_goals first | (exfalso; omega) | skip
  (refine call_auto hP (hmn) ?_; conv => whnf); (refine ⟨⟨rfl, rfl, rfl, has_a, rfl, rfl⟩, ?_⟩; conv => whnf)
  refine loop_auto (α := Nat) (ds := []) (N := 3) (fun i => [(37, sInt .i64 (i : Int))]) [] (fun i => [(2, some (memP m (cutF ws i) hs))]) (fun i => i ≤ m) (fun i => m - i) 0 (Nat.zero_le _) ?_ fun i hi => ?_
  · (conv => whnf); (refine imp_auto hA ?_; conv => whnf); exact ⟨rfl, rfl, rfl, regs_a, has_a, rfl⟩
  · have hni : nadd 0 ((i : Nat) : Int).toNat = i := by simp [nadd_eq]
    conv => whnf
    refine dsplit (fun h2 => ?_) (fun h2 => ?_)
    · have hst := memStore_in m i (cutF ws i) hs (ws i) (by omega) (by omega)
      conv => whnf
      (repeat' (first | (refine And.intro (by (first | omega | assumption | (simp only [nadd_eq]; omega) | (simp [nadd_eq]; omega))) ?_; conv => whnf) | (refine arI64 (by omega) (by omega) ?_; conv => whnf) | (refine arU32 (by omega) (by omega) ?_; conv => whnf) | (refine arU8 (by omega) (by omega) ?_; conv => whnf)))
      rw [hni]
      conv => whnf
      (refine call_auto hP (hst) ?_; conv => whnf); (refine ⟨⟨rfl, rfl, rfl, has_a, rfl, rfl⟩, ?_⟩; conv => whnf)
      (repeat' (first | (refine And.intro (by (first | omega | assumption | (simp only [nadd_eq]; omega) | (simp [nadd_eq]; omega))) ?_; conv => whnf) | (refine arI64 (by omega) (by omega) ?_; conv => whnf) | (refine arU32 (by omega) (by omega) ?_; conv => whnf) | (refine arU8 (by omega) (by omega) ?_; conv => whnf)))
      refine ⟨i + 1, by omega, by omega, ?_⟩
      rw [cut_snoc]
      (conv => whnf); (refine imp_auto hA ?_; conv => whnf); exact ⟨rfl, rfl, rfl, regs_a, has_a, rfl⟩
    · obtain rfl : i = m := by omega
      conv => whnf
      (refine call_auto hP (hcn) ?_; conv => whnf); (refine ⟨⟨rfl, rfl, rfl, has_a, rfl, rfl⟩, ?_⟩; conv => whnf)
      (repeat' (first | (refine And.intro (by (first | omega | assumption | (simp only [nadd_eq]; omega) | (simp [nadd_eq]; omega))) ?_; conv => whnf) | (refine arI64 (by omega) (by omega) ?_; conv => whnf) | (refine arU32 (by omega) (by omega) ?_; conv => whnf) | (refine arU8 (by omega) (by omega) ?_; conv => whnf)))
      (refine fin_close (H := (portH nt i (cutF ws i) hs (fun _ => 0) (fun _ => 0) (fun _ => 0) fun _ => 0)) (np := 4) 5 0 (Nat.le_of_ble_eq_true rfl) ?_; conv => whnf); (refine ⟨⟨rfl, by omega, rfl, rfl, has_a, rfl⟩, ?_⟩)
      (refine fin_auto ?_; conv => whnf); exact ⟨rfl, rfl, rfl, rfl, has_a, rfl⟩
theorem planPort_ok (nt m : Nat) (hs ws : Nat → Int) (h1 : 1 ≤ nt ∧ nt ≤ 64) (hm : m ≤ 4096) (hb : anyZ badH hs m = false) :
    FSpec Tryz.prog 65 [(0, some (planP nt m hs ws))] 1 [.l (.p 0 0 0 0)] fun x h k =>
      x = .t [.l (.p 1 0 0 0), .l (.v (.int .i64 0))] ∧ k = 2 ∧ h = [(1, some (portP nt m (cutF ws m) hs (fun _ => 0) (fun _ => 0) (fun _ => 0) fun _ => 0))] := by
  have hpn := portNew_ok nt m hs ws h1 hm hb
  refine spec_of_ev_g (open_spec (planH nt m hs ws) 3 0 (by omega)) Tryz.func65 ic65_eq (rs := [.t 2, .t 3]) (by kernel_rfl) (by kernel_rfl) (by kernel_rfl) fun G hP hA => ?_
  unfold evF ic65
  conv => whnf
  (refine drawP_intro (by rw [hP]; exact follows) (by kernel_rfl) ?_; conv => whnf)
  (refine callD_auto hP (hpn) ?_; conv => whnf); (refine ⟨⟨rfl, rfl, rfl, has_a, rfl, rfl⟩, ?_⟩; conv => whnf)
  (repeat (refine And.intro (by (conv => whnf); first | exact ⟨rfl, rfl, rfl⟩ | (refine And.intro (by (first | omega | assumption | (simp only [nadd_eq]; omega) | (simp [nadd_eq]; omega))) ?_; (conv => whnf); exact ⟨rfl, rfl, rfl⟩)) ?_; conv => whnf))
  conv => whnf
  (refine fin_auto ?_; conv => whnf); exact ⟨rfl, rfl, rfl, rfl, has_a, rfl⟩
end Go.Proofs.YtlkfolopbehikaaGreat
set_option linter.unusedSimpArgs false
set_option linter.unusedVariables false
namespace Go.Proofs.YtlkfolopbehikaaGreat
open Go Go.Sx

/-- A lock of Craig, Landin and Hagersten, with its port (name 1, of others). -/
def clhH1 (n : Nat) (tail : Int) (st dl no ah sp : Nat → Int) : Heap := [(0, some (.st [.p 2 0 0 0, .p 1 0 0 0, .v (.int .i64 tail), .s 3 3 0 n 0])), (2, some (seatP n st dl false true)), (3, some (.ar 3 n (clhE no ah sp)))]
theorem clhUse_spec (n : Nat) (tail : Int) (st dl no ah sp : Nat → Int) :
    FSpec Tryz.prog 236 [(0, some (clhP0 n tail st dl no ah sp))] 2 [.l (.p 0 0 0 0), .l (.p 1 0 0 0)] fun x h k =>
      x = .t [] ∧ k = 2 ∧ h = [(0, some (packE (clhH1 n tail st dl no ah sp) 4 1))] := by
  refine spec_of_ev_g (open_at 0 (h := [(0, some (clhP0 n tail st dl no ah sp))]) (n := 2) (ks := []) (H := clhH0 n tail st dl no ah sp) (np := 3) rfl (by decide) rfl rfl rfl) Tryz.func236 ic236_eq (rs := []) (by kernel_rfl) (by kernel_rfl) (by kernel_rfl) fun G hP hA => ?_
  unfold evF ic236
  conv => whnf
  (refine fin_close (H := (clhH1 n tail st dl no ah sp)) (np := 4) 0 1 (Nat.le_of_ble_eq_true rfl) ?_; conv => whnf); (refine ⟨⟨rfl, by omega, rfl, rfl, has_a, rfl⟩, ?_⟩)
  (refine fin_auto ?_; conv => whnf); exact ⟨rfl, rfl, rfl, rfl, has_a, rfl⟩
theorem invUse_clh (v : Value) (args : Array Value) (w : World) : (callMethod (.iface 227 v) "Use" args).run Tryz.prog w = .ok (.enter 236 (#[v] ++ args)) w := by kernel_rfl
end Go.Proofs.YtlkfolopbehikaaGreat
set_option linter.unusedSimpArgs false
set_option linter.unusedVariables false
namespace Go.Proofs.YtlkfolopbehikaaGreat
open Go Go.Sx

/-- A configuration; its homes lie under name k. -/
def confA (kind : Int) (k m : Nat) (start slots pool budget glob loc : Int) : AV := .a [.v (.int .i64 kind), .s k 1 0 m 0, .v (.int .u32 start), .v (.int .i64 slots), .v (.int .i64 pool), .v (.int .i64 budget), .v (.int .i64 glob), .v (.int .i64 loc)]
theorem anyZ_false {p : Int → Bool} {f : Nat → Int} : ∀ {n : Nat}, anyZ p f n = false ↔ ∀ i, i < n → p (f i) = false
  | 0 => ⟨fun _ i hi => absurd hi (Nat.not_lt_zero i), fun _ => rfl⟩
  | n + 1 => by
    rw [anyZ, Bool.or_eq_false_iff, anyZ_false]
    constructor
    · rintro ⟨h1, h2⟩ i hi
      rcases Nat.lt_succ_iff_lt_or_eq.1 hi with h | rfl
      · exact h1 i h
      · exact h2
    · exact fun h => ⟨fun i hi => h i (by omega), h n (by omega)⟩
theorem tail_all {Q : Int → Prop} {f : Nat → Int} {m : Nat} {v : Int} (h : ∀ j, j < m → Q (f j)) (hv : Q v) (j : Nat) : Q (tailF f m v j) := by
  unfold tailF
  by_cases hj : j < m
  · rw [if_pos hj]; exact h j hj
  · rw [if_neg hj]; exact hv
theorem snoc_all {Q : Int → Prop} {f h : Nat → Int} {m : Nat} (hf : ∀ j, j < m → Q (f j)) : ∀ i, (∀ j, j < i → Q (h j)) → ∀ j, j < m + i → Q (snocF f m h i j)
  | 0, _, j, hj => hf j hj
  | i + 1, hh, j, _ => tail_all (snoc_all hf i fun j hj => hh j (by omega)) (hh i (by omega)) j
theorem clhHs_good {hs h : Nat → Int} {m : Nat} (hm : 1 ≤ m) (hb : anyZ badH h m = false) : anyZ badH (clhHs hs 0 h m) (2 + m) = false := by
  have h0 := anyZ_false.1 hb
  refine anyZ_false.2 (snoc_all (Q := fun x => badH x = false) (m := 2) (fun j hj => ?_) m h0)
  exact tail_all (Q := fun x => badH x = false) (fun j hj => tail_all (Q := fun x => badH x = false) (fun j hj => absurd hj (Nat.not_lt_zero _)) (h0 0 hm) j) (h0 0 hm) j
theorem lay3_bad (th : Int) (hs ws h : Nat → Int) (m : Nat) (start slots pool budget glob loc : Int) (hm : m ≤ 80) (hb : m < 1 ∨ 64 < m ∨ anyZ badH h m = true) :
    FSpec Tryz.prog 64 [(0, some (planP th 0 hs ws)), (1, some (.ro 1 m (numE h)))] 2 [.l (.p 0 0 0 0), confA 3 1 m start slots pool budget glob loc] fun x h' k =>
      x = .t [.l (.v (.iface 227 (.pointer none))), .l (.v (.int .i64 1))] ∧ k = 2 ∧ h' = [(0, some (planP th 0 hs ws))] := by
  have hcn := clhNew_bad th 0 hs ws h m hm hb
  refine spec_of_ev Tryz.func64 ic64_eq (rs := [.t 4, .t 5]) (by kernel_rfl) (by kernel_rfl) (by kernel_rfl) fun G hP hA => ?_
  unfold evF ic64
  conv => whnf
  (refine call_auto hP (hcn) ?_; conv => whnf); (refine ⟨⟨rfl, rfl, rfl, has_a, rfl, rfl⟩, ?_⟩; conv => whnf)
  (refine fin_auto ?_; conv => whnf); exact ⟨rfl, rfl, rfl, rfl, has_a, rfl⟩
theorem lay3_ok (th : Int) (hs ws h : Nat → Int) (m : Nat) (start slots pool budget glob loc : Int) (hm : 1 ≤ m ∧ m ≤ 64) (hb : anyZ badH h m = false) :
    FSpec Tryz.prog 64 [(0, some (planP th 0 hs ws)), (1, some (.ro 1 m (numE h)))] 2 [.l (.p 0 0 0 0), confA 3 1 m start slots pool budget glob loc] fun x h' k =>
      x = .t [.l (.i 227 2), .l (.v (.int .i64 0))] ∧ k = 3 ∧ h' = [(0, some (planP th (2 + m) (clhHs hs 0 h m) (clhWs ws 0 m))), (2, some (clhP0 m 0 (fun _ => 0) (fun _ => -1) (fun i => i + 1) (fun _ => 0) fun _ => 0))] := by
  have hcn := clhNew_ok th 0 hs ws h m (by omega) hm hb
  rw [show 0 + 2 + m = 2 + m by omega] at hcn
  refine spec_of_ev Tryz.func64 ic64_eq (rs := [.t 4, .t 5]) (by kernel_rfl) (by kernel_rfl) (by kernel_rfl) fun G hP hA => ?_
  unfold evF ic64
  conv => whnf
  (refine call_auto hP (hcn) ?_; conv => whnf); (refine ⟨⟨rfl, rfl, rfl, has_a, rfl, rfl⟩, ?_⟩; conv => whnf)
  (refine fin_auto ?_; conv => whnf); exact ⟨rfl, rfl, rfl, rfl, has_a, rfl⟩
theorem layNone (th : Int) (hs ws h : Nat → Int) (m : Nat) (kind start slots pool budget glob loc : Int) (hk : kind < 1 ∨ 7 < kind) :
    FSpec Tryz.prog 64 [(0, some (planP th 0 hs ws)), (1, some (.ro 1 m (numE h)))] 2 [.l (.p 0 0 0 0), confA kind 1 m start slots pool budget glob loc] fun x h' k =>
      x = .t [.l (.v .nilIface), .l (.v (.int .i64 7))] ∧ k = 2 ∧ h' = [(0, some (planP th 0 hs ws))] := by
  refine spec_of_ev Tryz.func64 ic64_eq (rs := [.t 4, .t 5]) (by kernel_rfl) (by kernel_rfl) (by kernel_rfl) fun G hP hA => ?_
  unfold evF ic64
  conv => whnf
  (repeat' (first | (refine join_plain ?_; conv => whnf) | (refine dsplit (fun _ => ?_) (fun _ => ?_) <;> conv => whnf)))
  all_goals first | (exfalso; omega) | skip
  (refine fin_auto ?_; conv => whnf); exact ⟨rfl, rfl, rfl, rfl, has_a, rfl⟩
theorem buildNew3_ok (h : Nat → Int) (m : Nat) (start slots pool budget glob loc : Int) (hm : 1 ≤ m ∧ m ≤ 64) (hb : anyZ badH h m = false) :
    FSpec Tryz.prog 33 [(0, some (.ro 1 m (numE h)))] 1 [confA 3 0 m start slots pool budget glob loc] fun x h' k =>
      x = .t [.l (.i 227 1), .l (.p 2 0 0 0), .l (.v (.int .i64 0))] ∧ k = 3 ∧ h' = [(1, some (.ob [2] (PackR (clhH1 m 0 (fun _ => 0) (fun _ => -1) (fun i => i + 1) (fun _ => 0) fun _ => 0) 4))),
        (2, some (portP m (2 + m) (cutF (clhWs (fun _ => 0) 0 m) (2 + m)) (clhHs (fun _ => 0) 0 h m) (fun _ => 0) (fun _ => 0) (fun _ => 0) fun _ => 0))] := by
  have hpn := planNew_spec (m : Int) (fun _ => 0) fun _ => 0
  have hly := lay3_ok (m : Int) (fun _ => 0) (fun _ => 0) h m start slots pool budget glob loc hm hb
  have hpp := planPort_ok m (2 + m) (clhHs (fun _ => 0) 0 h m) (clhWs (fun _ => 0) 0 m) hm (by omega) (clhHs_good hm.1 hb)
  have hu := clhUse_spec m 0 (fun _ => 0) (fun _ => -1) (fun i => i + 1) (fun _ => 0) fun _ => 0
  refine spec_of_ev Tryz.func33 ic33_eq (rs := [.t 2, .t 3, .t 4]) (by kernel_rfl) (by kernel_rfl) (by kernel_rfl) fun G hP hA => ?_
  unfold evF ic33
  conv => whnf
  (repeat' (first | (refine And.intro (by (first | omega | assumption | (simp only [nadd_eq]; omega) | (simp [nadd_eq]; omega))) ?_; conv => whnf) | (refine arI64 (by omega) (by omega) ?_; conv => whnf) | (refine arU32 (by omega) (by omega) ?_; conv => whnf) | (refine arU8 (by omega) (by omega) ?_; conv => whnf)))
  (refine call_auto hP (hpn) ?_; conv => whnf); (refine ⟨⟨rfl, rfl, rfl, has_a, rfl, rfl⟩, ?_⟩; conv => whnf)
  (refine call_auto hP (hly) ?_; conv => whnf); (refine ⟨⟨rfl, rfl, rfl, has_a, rfl, rfl⟩, ?_⟩; conv => whnf)
  (refine call_auto hP (hpp) ?_; conv => whnf); (refine ⟨⟨rfl, rfl, rfl, has_a, rfl, rfl⟩, ?_⟩; conv => whnf)
  refine inv_own hP invUse_clh ?_
  (refine call_auto hP (hu) ?_; conv => whnf); (refine ⟨⟨rfl, rfl, rfl, has_a, rfl, rfl⟩, ?_⟩; conv => whnf)
  (refine fin_auto ?_; conv => whnf); exact ⟨rfl, rfl, rfl, rfl, has_a, rfl⟩
end Go.Proofs.YtlkfolopbehikaaGreat
set_option linter.unusedSimpArgs false
set_option linter.unusedVariables false
namespace Go.Proofs.YtlkfolopbehikaaGreat
open Go Go.Sx

theorem badMcs_spec (v : Int) : FSpec Tryz.prog 135 [] 0 [.l (.v (.int .i64 v))] fun x h n => x = sBool (badH v) ∧ n = 0 ∧ h = [] := by
  refine spec_of_ev Tryz.func135 ic135_eq (rs := [.t 2]) (by kernel_rfl) (by kernel_rfl) (by kernel_rfl) fun G hP hA => ?_
  unfold evF ic135
  conv => whnf
  (repeat' (first | (refine join_plain ?_; conv => whnf) | (refine dsplit (fun _ => ?_) (fun _ => ?_) <;> conv => whnf)))
  all_goals (((refine fin_auto ?_; conv => whnf); refine ⟨rfl, rfl, rfl, bool_fin ?_, has_a, rfl⟩); unfold badH; rw [Bool.eq_iff_iff]; simp; omega)
def mcsE (sp ot : Nat → Int) : Nat → List Value := fun i => [.int .i64 (sp i), .int .u32 (ot i)]
/-- A lock of Mellor-Crummey and Scott that uses no port yet; .. with its port. -/
def mcsH0 (n : Nat) (tail : Int) (st dl sp ot : Nat → Int) : Heap := [(0, some (.st [.p 1 0 0 0, .v (.pointer none), .v (.int .i64 tail), .s 2 2 0 n 0])), (1, some (seatP n st dl false true)), (2, some (.ar 2 n (mcsE sp ot)))]
def mcsP0 (n : Nat) (tail : Int) (st dl sp ot : Nat → Int) : Ent := .ob [] (PackR (mcsH0 n tail st dl sp ot) 3)
def mcsH1 (n : Nat) (tail : Int) (st dl sp ot : Nat → Int) : Heap := [(0, some (.st [.p 2 0 0 0, .p 1 0 0 0, .v (.int .i64 tail), .s 3 2 0 n 0])), (2, some (seatP n st dl false true)), (3, some (.ar 2 n (mcsE sp ot)))]
/-- q words more at each of the homes h. -/
def rowsF (q : Nat) (f : Nat → Int) (m : Nat) (h : Nat → Int) : Nat → Nat → Int
  | 0 => f
  | i + 1 => tailF (rowsF q f m h i) (m + q * i) (h i)
theorem rows_all {Q : Int → Prop} {f h : Nat → Int} {q m : Nat} (hf : ∀ j, j < m → Q (f j)) : ∀ i, (∀ j, j < i → Q (h j)) → ∀ j, j < m + q * i → Q (rowsF q f m h i j)
  | 0, _, j, hj => hf j (by omega)
  | i + 1, hh, j, _ => tail_all (rows_all hf i fun j hj => hh j (by omega)) (hh i (by omega)) j
def mcsHs (hs : Nat → Int) (m : Nat) (h : Nat → Int) : Nat → Nat → Int := rowsF 2 (tailF hs m (h 0)) (m + 1) h
def mcsWs (ws : Nat → Int) (m : Nat) : Nat → Nat → Int := rowsF 2 (tailF ws m 0) (m + 1) fun _ => 0
theorem mcsNew_bad (th : Int) (M : Nat) (hs ws h : Nat → Int) (m : Nat) (hm : m ≤ 80) (hb : m < 1 ∨ 64 < m ∨ anyZ badH h m = true) :
    FSpec Tryz.prog 108 [(0, some (planP th M hs ws)), (1, some (.ro 1 m (numE h)))] 2 [.l (.p 0 0 0 0), .l (.s 1 1 0 m 0)] fun x h' k =>
      x = .t [.l (.v (.pointer none)), .l (.v (.int .i64 1))] ∧ k = 2 ∧ h' = [(0, some (planP th M hs ws))] := by
  refine spec_of_ev Tryz.func108 ic108_eq (rs := [.t 4, .t 5]) (by kernel_rfl) (by kernel_rfl) (by kernel_rfl) fun G hP hA => ?_
  unfold evF ic108
  by_cases h1 : m < 1 ∨ 64 < m
  · have hse := seatNew_bad (m : Int) false true (by omega)
    conv => whnf
    (refine call_auto hP (hse) ?_; conv => whnf); (refine ⟨⟨rfl, rfl, rfl, has_a, rfl, rfl⟩, ?_⟩; conv => whnf)
    (refine fin_auto ?_; conv => whnf); exact ⟨rfl, rfl, rfl, rfl, has_a, rfl⟩
  · have hse := seatNew_ok m false true (by omega)
    have hcf := containsf_spec 135 badH badMcs_spec h m (by omega)
    rw [show anyZ badH h m = true from by rcases hb with hb | hb | hb <;> first | exact hb | omega] at hcf
    conv => whnf
    (refine call_auto hP (hse) ?_; conv => whnf); (refine ⟨⟨rfl, rfl, rfl, has_a, rfl, rfl⟩, ?_⟩; conv => whnf)
    (refine call_auto hP (hcf) ?_; conv => whnf); (refine ⟨⟨rfl, rfl, rfl, has_a, rfl, rfl⟩, ?_⟩; conv => whnf)
    (refine fin_auto ?_; conv => whnf); exact ⟨rfl, rfl, rfl, rfl, has_a, rfl⟩
set_option maxHeartbeats 1000000 in
theorem mcsNew_ok (th : Int) (M : Nat) (hs ws h : Nat → Int) (m : Nat) (hM : M ≤ 10000) (hm : 1 ≤ m ∧ m ≤ 64) (hb : anyZ badH h m = false) :
    FSpec Tryz.prog 108 [(0, some (planP th M hs ws)), (1, some (.ro 1 m (numE h)))] 2 [.l (.p 0 0 0 0), .l (.s 1 1 0 m 0)] fun x h' k =>
      x = .t [.l (.p 2 0 0 0), .l (.v (.int .i64 0))] ∧ k = 3 ∧ h' = [(0, some (planP th (M + 1 + 2 * m) (mcsHs hs M h m) (mcsWs ws M m))), (2, some (mcsP0 m M (fun _ => 0) (fun _ => -1) (fun _ => 0) fun _ => 0))] := by
  have hse := seatNew_ok m false true (by omega)
  have hcf := containsf_spec 135 badH badMcs_spec h m (by omega)
  rw [hb] at hcf
  have hw1 := word_spec th M hs ws (h 0) 0 (by omega)
  refine spec_of_ev Tryz.func108 ic108_eq (rs := [.t 4, .t 5]) (by kernel_rfl) (by kernel_rfl) (by kernel_rfl) fun G hP hA => ?_
  unfold evF ic108
  conv => whnf
  (refine call_auto hP (hse) ?_; conv => whnf); (refine ⟨⟨rfl, rfl, rfl, has_a, rfl, rfl⟩, ?_⟩; conv => whnf)
  (refine call_auto hP (hcf) ?_; conv => whnf); (refine ⟨⟨rfl, rfl, rfl, has_a, rfl, rfl⟩, ?_⟩; conv => whnf)
  (refine drawP_lazy (by rw [hP]; exact follows) 60 (by kernel_rfl) ?_; conv => whnf)
  repeat' (first | (refine And.intro (by first | omega | (simp [nadd_eq]; omega)) ?_; conv => whnf) | (refine And.intro ?_ ?_ <;> (conv => whnf)) | ((refine callD_auto hP (hw1) ?_; conv => whnf); (refine ⟨⟨rfl, rfl, rfl, has_a, rfl, rfl⟩, ?_⟩; conv => whnf)))
  all_goals
    refine loop_auto (α := Nat) (ds := []) (N := 5) (fun i => [(36, sInt .i64 (i : Int))]) []
      (fun i => [(0, some (planP th (M + 1 + 2 * i) (mcsHs hs M h i) (mcsWs ws M i)))])
      (fun i => i ≤ m) (fun i => m - i) 0 (Nat.zero_le _) ?_ fun i hi => ?_
    · (conv => whnf); (refine imp_auto hA ?_; conv => whnf); exact ⟨rfl, rfl, rfl, regs_a, has_a, rfl⟩
    · have hwi := row_spec th (M + 1 + 2 * i) (mcsHs hs M h i) (mcsWs ws M i) 2 (h i) 0 2 (by omega) (by omega)
      conv => whnf
      refine dsplit (fun h1 => ?_) (fun h1 => ?_)
      · conv => whnf
        (repeat' (first | (refine And.intro (by (first | omega | assumption | (simp only [nadd_eq]; omega) | (simp [nadd_eq]; omega))) ?_; conv => whnf) | (refine arI64 (by omega) (by omega) ?_; conv => whnf) | (refine arU32 (by omega) (by omega) ?_; conv => whnf) | (refine arU8 (by omega) (by omega) ?_; conv => whnf)))
        (refine call_auto hP (hwi) ?_; conv => whnf); (refine ⟨⟨rfl, rfl, rfl, has_a, rfl, rfl⟩, ?_⟩; conv => whnf)
        (repeat' (first | (refine And.intro (by (first | omega | assumption | (simp only [nadd_eq]; omega) | (simp [nadd_eq]; omega))) ?_; conv => whnf) | (refine arI64 (by omega) (by omega) ?_; conv => whnf) | (refine arU32 (by omega) (by omega) ?_; conv => whnf) | (refine arU8 (by omega) (by omega) ?_; conv => whnf)))
        refine ⟨i + 1, by omega, by omega, ?_⟩
        (conv => whnf); (refine imp_auto hA ?_; conv => whnf); exact ⟨rfl, rfl, rfl, regs_a, has_a, rfl⟩
      · obtain rfl : i = m := by omega
        conv => whnf
        (refine fin_close (H := (mcsH0 i M (fun _ => 0) (fun _ => -1) (fun _ => 0) fun _ => 0)) (np := 3) 4 0 (Nat.le_of_ble_eq_true rfl) ?_; conv => whnf); (refine ⟨⟨rfl, by omega, rfl, rfl, has_a, rfl⟩, ?_⟩)
        (refine fin_auto ?_; conv => whnf); exact ⟨rfl, rfl, rfl, rfl, has_a, rfl⟩
end Go.Proofs.YtlkfolopbehikaaGreat
set_option linter.unusedSimpArgs false
set_option linter.unusedVariables false
namespace Go.Proofs.YtlkfolopbehikaaGreat
open Go Go.Sx

theorem badFlat_spec (v : Int) : FSpec Tryz.prog 129 [] 0 [.l (.v (.int .i64 v))] fun x h n => x = sBool (badH v) ∧ n = 0 ∧ h = [] := by
  refine spec_of_ev Tryz.func129 ic129_eq (rs := [.t 2]) (by kernel_rfl) (by kernel_rfl) (by kernel_rfl) fun G hP hA => ?_
  unfold evF ic129
  conv => whnf
  (repeat' (first | (refine join_plain ?_; conv => whnf) | (refine dsplit (fun _ => ?_) (fun _ => ?_) <;> conv => whnf)))
  all_goals (((refine fin_auto ?_; conv => whnf); refine ⟨rfl, rfl, rfl, bool_fin ?_, has_a, rfl⟩); unfold badH; rw [Bool.eq_iff_iff]; simp; omega)
def boolE (b : Nat → Bool) : Nat → List Value := fun i => [.bool (b i)]
/-- A ticket lock that uses no port yet; .. with its port. -/
def flatH0 (n : Nat) (nx ow : Int) (st dl nu : Nat → Int) (dr : Nat → Bool) : Heap := [(0, some (.st [.p 1 0 0 0, .v (.pointer none), .v (.int .i64 nx), .v (.int .i64 ow), .s 2 1 0 n 0, .s 3 1 0 n 0])), (1, some (seatP n st dl false true)), (2, some (.ar 1 n (wordE nu))), (3, some (.ar 1 n (boolE dr)))]
def flatP0 (n : Nat) (nx ow : Int) (st dl nu : Nat → Int) (dr : Nat → Bool) : Ent := .ob [] (PackR (flatH0 n nx ow st dl nu dr) 4)
def flatH1 (n : Nat) (nx ow : Int) (st dl nu : Nat → Int) (dr : Nat → Bool) : Heap := [(0, some (.st [.p 2 0 0 0, .p 1 0 0 0, .v (.int .i64 nx), .v (.int .i64 ow), .s 3 1 0 n 0, .s 4 1 0 n 0])), (2, some (seatP n st dl false true)), (3, some (.ar 1 n (wordE nu))), (4, some (.ar 1 n (boolE dr)))]
def flatHs (hs : Nat → Int) (m : Nat) (h : Nat → Int) : Nat → Int := tailF (tailF hs m (h 0)) (m + 1) (h 0)
def flatWs (ws : Nat → Int) (m : Nat) (u : Int) : Nat → Int := tailF (tailF ws m u) (m + 1) u
theorem flatNew_bad (th : Int) (M : Nat) (hs ws h : Nat → Int) (m : Nat) (u : Int) (hm : m ≤ 80) (hb : m < 1 ∨ 64 < m ∨ anyZ badH h m = true) :
    FSpec Tryz.prog 105 [(0, some (planP th M hs ws)), (1, some (.ro 1 m (numE h)))] 2 [.l (.p 0 0 0 0), .l (.s 1 1 0 m 0), .l (.v (.int .u32 u))] fun x h' k =>
      x = .t [.l (.v (.pointer none)), .l (.v (.int .i64 1))] ∧ k = 2 ∧ h' = [(0, some (planP th M hs ws))] := by
  refine spec_of_ev Tryz.func105 ic105_eq (rs := [.t 6, .t 7]) (by kernel_rfl) (by kernel_rfl) (by kernel_rfl) fun G hP hA => ?_
  unfold evF ic105
  by_cases h1 : m < 1 ∨ 64 < m
  · have hse := seatNew_bad (m : Int) false true (by omega)
    conv => whnf
    (refine call_auto hP (hse) ?_; conv => whnf); (refine ⟨⟨rfl, rfl, rfl, has_a, rfl, rfl⟩, ?_⟩; conv => whnf)
    (refine fin_auto ?_; conv => whnf); exact ⟨rfl, rfl, rfl, rfl, has_a, rfl⟩
  · have hse := seatNew_ok m false true (by omega)
    have hcf := containsf_spec 129 badH badFlat_spec h m (by omega)
    rw [show anyZ badH h m = true from by rcases hb with hb | hb | hb <;> first | exact hb | omega] at hcf
    conv => whnf
    (refine call_auto hP (hse) ?_; conv => whnf); (refine ⟨⟨rfl, rfl, rfl, has_a, rfl, rfl⟩, ?_⟩; conv => whnf)
    (refine call_auto hP (hcf) ?_; conv => whnf); (refine ⟨⟨rfl, rfl, rfl, has_a, rfl, rfl⟩, ?_⟩; conv => whnf)
    (refine fin_auto ?_; conv => whnf); exact ⟨rfl, rfl, rfl, rfl, has_a, rfl⟩
set_option maxHeartbeats 1000000 in
theorem flatNew_ok (th : Int) (M : Nat) (hs ws h : Nat → Int) (m : Nat) (u : Int) (hM : M ≤ 10000) (hm : 1 ≤ m ∧ m ≤ 64) (hb : anyZ badH h m = false) :
    FSpec Tryz.prog 105 [(0, some (planP th M hs ws)), (1, some (.ro 1 m (numE h)))] 2 [.l (.p 0 0 0 0), .l (.s 1 1 0 m 0), .l (.v (.int .u32 u))] fun x h' k =>
      x = .t [.l (.p 2 0 0 0), .l (.v (.int .i64 0))] ∧ k = 3 ∧ h' = [(0, some (planP th (M + 2) (flatHs hs M h) (flatWs ws M u))), (2, some (flatP0 m M (M + 1) (fun _ => 0) (fun _ => -1) (fun _ => 0) fun _ => false))] := by
  have hse := seatNew_ok m false true (by omega)
  have hcf := containsf_spec 129 badH badFlat_spec h m (by omega)
  rw [hb] at hcf
  have hw1 := word_spec th M hs ws (h 0) u (by omega)
  have hw2 := word_spec th (M + 1) (tailF hs M (h 0)) (tailF ws M u) (h 0) u (by omega)
  refine spec_of_ev Tryz.func105 ic105_eq (rs := [.t 6, .t 7]) (by kernel_rfl) (by kernel_rfl) (by kernel_rfl) fun G hP hA => ?_
  unfold evF ic105
  conv => whnf
  (refine call_auto hP (hse) ?_; conv => whnf); (refine ⟨⟨rfl, rfl, rfl, has_a, rfl, rfl⟩, ?_⟩; conv => whnf)
  (refine call_auto hP (hcf) ?_; conv => whnf); (refine ⟨⟨rfl, rfl, rfl, has_a, rfl, rfl⟩, ?_⟩; conv => whnf)
  (refine drawP_lazy (by rw [hP]; exact follows) 60 (by kernel_rfl) ?_; conv => whnf)
  repeat' (first | (refine And.intro (by first | omega | (simp [nadd_eq]; omega)) ?_; conv => whnf) | (refine And.intro ?_ ?_ <;> (conv => whnf)))
  all_goals
    (refine drawP_lazy (by rw [hP]; exact follows) 60 (by kernel_rfl) ?_; conv => whnf)
    repeat' (first | (refine And.intro (by first | omega | (simp [nadd_eq]; omega)) ?_; conv => whnf) | (refine And.intro ?_ ?_ <;> (conv => whnf)))
  all_goals (refine callD_auto hP (hw1) ?_; conv => whnf); (refine ⟨⟨rfl, rfl, rfl, has_a, rfl, rfl⟩, ?_⟩; conv => whnf)
  repeat' (first | (refine And.intro (by first | omega | (simp [nadd_eq]; omega)) ?_; conv => whnf) | (refine And.intro ?_ ?_ <;> (conv => whnf)))
  all_goals (refine callD_auto hP (hw2) ?_; conv => whnf); (refine ⟨⟨rfl, rfl, rfl, has_a, rfl, rfl⟩, ?_⟩; conv => whnf)
  repeat' (first | (refine And.intro (by first | omega | (simp [nadd_eq]; omega)) ?_; conv => whnf) | (refine And.intro ?_ ?_ <;> (conv => whnf)))
  all_goals ((refine fin_close (H := (flatH0 m M ((M + 1 : Nat) : Int) (fun _ => 0) (fun _ => -1) (fun _ => 0) fun _ => false)) (np := 4) 5 0 (Nat.le_of_ble_eq_true rfl) ?_; conv => whnf); (refine ⟨⟨rfl, by omega, rfl, rfl, has_a, rfl⟩, ?_⟩); (refine fin_auto ?_; conv => whnf); exact ⟨rfl, rfl, rfl, rfl, has_a, rfl⟩)

end Go.Proofs.YtlkfolopbehikaaGreat
set_option linter.unusedSimpArgs false
set_option linter.unusedVariables false
namespace Go.Proofs.YtlkfolopbehikaaGreat
open Go Go.Sx

theorem flatUse_spec (n : Nat) (nx ow : Int) (st dl nu : Nat → Int) (dr : Nat → Bool) :
    FSpec Tryz.prog 215 [(0, some (flatP0 n nx ow st dl nu dr))] 2 [.l (.p 0 0 0 0), .l (.p 1 0 0 0)] fun x h k =>
      x = .t [] ∧ k = 2 ∧ h = [(0, some (packE (flatH1 n nx ow st dl nu dr) 5 1))] := by
  refine spec_of_ev_g (open_at 0 (h := [(0, some (flatP0 n nx ow st dl nu dr))]) (n := 2) (ks := []) (H := flatH0 n nx ow st dl nu dr) (np := 4) rfl (by decide) rfl rfl rfl) Tryz.func215 ic215_eq (rs := []) (by kernel_rfl) (by kernel_rfl) (by kernel_rfl) fun G hP hA => ?_
  unfold evF ic215
  conv => whnf
  (refine fin_close (H := (flatH1 n nx ow st dl nu dr)) (np := 5) 0 1 (Nat.le_of_ble_eq_true rfl) ?_; conv => whnf); (refine ⟨⟨rfl, by omega, rfl, rfl, has_a, rfl⟩, ?_⟩)
  (refine fin_auto ?_; conv => whnf); exact ⟨rfl, rfl, rfl, rfl, has_a, rfl⟩
theorem invUse_flat (v : Value) (args : Array Value) (w : World) : (callMethod (.iface 221 v) "Use" args).run Tryz.prog w = .ok (.enter 215 (#[v] ++ args)) w := by kernel_rfl
theorem mcsUse_spec (n : Nat) (tail : Int) (st dl sp ot : Nat → Int) :
    FSpec Tryz.prog 244 [(0, some (mcsP0 n tail st dl sp ot))] 2 [.l (.p 0 0 0 0), .l (.p 1 0 0 0)] fun x h k =>
      x = .t [] ∧ k = 2 ∧ h = [(0, some (packE (mcsH1 n tail st dl sp ot) 4 1))] := by
  refine spec_of_ev_g (open_at 0 (h := [(0, some (mcsP0 n tail st dl sp ot))]) (n := 2) (ks := []) (H := mcsH0 n tail st dl sp ot) (np := 3) rfl (by decide) rfl rfl rfl) Tryz.func244 ic244_eq (rs := []) (by kernel_rfl) (by kernel_rfl) (by kernel_rfl) fun G hP hA => ?_
  unfold evF ic244
  conv => whnf
  (refine fin_close (H := (mcsH1 n tail st dl sp ot)) (np := 4) 0 1 (Nat.le_of_ble_eq_true rfl) ?_; conv => whnf); (refine ⟨⟨rfl, by omega, rfl, rfl, has_a, rfl⟩, ?_⟩)
  (refine fin_auto ?_; conv => whnf); exact ⟨rfl, rfl, rfl, rfl, has_a, rfl⟩
theorem invUse_mcs (v : Value) (args : Array Value) (w : World) : (callMethod (.iface 230 v) "Use" args).run Tryz.prog w = .ok (.enter 244 (#[v] ++ args)) w := by kernel_rfl
theorem lay1_bad (th : Int) (hs ws h : Nat → Int) (m : Nat) (start slots pool budget glob loc : Int) (hm : m ≤ 80) (hb : m < 1 ∨ 64 < m ∨ anyZ badH h m = true) :
    FSpec Tryz.prog 64 [(0, some (planP th 0 hs ws)), (1, some (.ro 1 m (numE h)))] 2 [.l (.p 0 0 0 0), confA 1 1 m start slots pool budget glob loc] fun x h' k =>
      x = .t [.l (.v (.iface 221 (.pointer none))), .l (.v (.int .i64 1))] ∧ k = 2 ∧ h' = [(0, some (planP th 0 hs ws))] := by
  have hcn := flatNew_bad th 0 hs ws h m start hm hb
  refine spec_of_ev Tryz.func64 ic64_eq (rs := [.t 4, .t 5]) (by kernel_rfl) (by kernel_rfl) (by kernel_rfl) fun G hP hA => ?_
  unfold evF ic64
  conv => whnf
  (refine call_auto hP (hcn) ?_; conv => whnf); (refine ⟨⟨rfl, rfl, rfl, has_a, rfl, rfl⟩, ?_⟩; conv => whnf)
  (refine fin_auto ?_; conv => whnf); exact ⟨rfl, rfl, rfl, rfl, has_a, rfl⟩
theorem lay1_ok (th : Int) (hs ws h : Nat → Int) (m : Nat) (start slots pool budget glob loc : Int) (hm : 1 ≤ m ∧ m ≤ 64) (hb : anyZ badH h m = false) :
    FSpec Tryz.prog 64 [(0, some (planP th 0 hs ws)), (1, some (.ro 1 m (numE h)))] 2 [.l (.p 0 0 0 0), confA 1 1 m start slots pool budget glob loc] fun x h' k =>
      x = .t [.l (.i 221 2), .l (.v (.int .i64 0))] ∧ k = 3 ∧ h' = [(0, some (planP th (2) (flatHs hs 0 h) (flatWs ws 0 start))), (2, some (flatP0 m 0 1 (fun _ => 0) (fun _ => -1) (fun _ => 0) fun _ => false))] := by
  have hcn := flatNew_ok th 0 hs ws h m start (by omega) hm hb
  rw [show 0 + 2 = 2 by omega] at hcn
  refine spec_of_ev Tryz.func64 ic64_eq (rs := [.t 4, .t 5]) (by kernel_rfl) (by kernel_rfl) (by kernel_rfl) fun G hP hA => ?_
  unfold evF ic64
  conv => whnf
  (refine call_auto hP (hcn) ?_; conv => whnf); (refine ⟨⟨rfl, rfl, rfl, has_a, rfl, rfl⟩, ?_⟩; conv => whnf)
  (refine fin_auto ?_; conv => whnf); exact ⟨rfl, rfl, rfl, rfl, has_a, rfl⟩
theorem flatHs_good {hs h : Nat → Int} {m : Nat} (hm : 1 ≤ m) (hb : anyZ badH h m = false) : anyZ badH (flatHs hs 0 h) 2 = false := by
  have h0 := anyZ_false.1 hb
  exact anyZ_false.2 fun j hj => tail_all (Q := fun x => badH x = false) (fun j hj => tail_all (Q := fun x => badH x = false) (fun j hj => absurd hj (Nat.not_lt_zero _)) (h0 0 hm) j) (h0 0 hm) j
theorem buildNew1_ok (h : Nat → Int) (m : Nat) (start slots pool budget glob loc : Int) (hm : 1 ≤ m ∧ m ≤ 64) (hb : anyZ badH h m = false) :
    FSpec Tryz.prog 33 [(0, some (.ro 1 m (numE h)))] 1 [confA 1 0 m start slots pool budget glob loc] fun x h' k =>
      x = .t [.l (.i 221 1), .l (.p 2 0 0 0), .l (.v (.int .i64 0))] ∧ k = 3 ∧ h' = [(1, some (.ob [2] (PackR (flatH1 m 0 1 (fun _ => 0) (fun _ => -1) (fun _ => 0) fun _ => false) 5))),
        (2, some (portP m (2) (cutF (flatWs (fun _ => 0) 0 start) (2)) (flatHs (fun _ => 0) 0 h) (fun _ => 0) (fun _ => 0) (fun _ => 0) fun _ => 0))] := by
  have hpn := planNew_spec (m : Int) (fun _ => 0) fun _ => 0
  have hly := lay1_ok (m : Int) (fun _ => 0) (fun _ => 0) h m start slots pool budget glob loc hm hb
  have hpp := planPort_ok m (2) (flatHs (fun _ => 0) 0 h) (flatWs (fun _ => 0) 0 start) hm (by omega) (flatHs_good hm.1 hb)
  have hu := flatUse_spec m 0 1 (fun _ => 0) (fun _ => -1) (fun _ => 0) fun _ => false
  refine spec_of_ev Tryz.func33 ic33_eq (rs := [.t 2, .t 3, .t 4]) (by kernel_rfl) (by kernel_rfl) (by kernel_rfl) fun G hP hA => ?_
  unfold evF ic33
  conv => whnf
  (repeat' (first | (refine And.intro (by (first | omega | assumption | (simp only [nadd_eq]; omega) | (simp [nadd_eq]; omega))) ?_; conv => whnf) | (refine arI64 (by omega) (by omega) ?_; conv => whnf) | (refine arU32 (by omega) (by omega) ?_; conv => whnf) | (refine arU8 (by omega) (by omega) ?_; conv => whnf)))
  (refine call_auto hP (hpn) ?_; conv => whnf); (refine ⟨⟨rfl, rfl, rfl, has_a, rfl, rfl⟩, ?_⟩; conv => whnf)
  (refine call_auto hP (hly) ?_; conv => whnf); (refine ⟨⟨rfl, rfl, rfl, has_a, rfl, rfl⟩, ?_⟩; conv => whnf)
  (refine call_auto hP (hpp) ?_; conv => whnf); (refine ⟨⟨rfl, rfl, rfl, has_a, rfl, rfl⟩, ?_⟩; conv => whnf)
  refine inv_own hP invUse_flat ?_
  (refine call_auto hP (hu) ?_; conv => whnf); (refine ⟨⟨rfl, rfl, rfl, has_a, rfl, rfl⟩, ?_⟩; conv => whnf)
  (refine fin_auto ?_; conv => whnf); exact ⟨rfl, rfl, rfl, rfl, has_a, rfl⟩
theorem lay4_bad (th : Int) (hs ws h : Nat → Int) (m : Nat) (start slots pool budget glob loc : Int) (hm : m ≤ 80) (hb : m < 1 ∨ 64 < m ∨ anyZ badH h m = true) :
    FSpec Tryz.prog 64 [(0, some (planP th 0 hs ws)), (1, some (.ro 1 m (numE h)))] 2 [.l (.p 0 0 0 0), confA 4 1 m start slots pool budget glob loc] fun x h' k =>
      x = .t [.l (.v (.iface 230 (.pointer none))), .l (.v (.int .i64 1))] ∧ k = 2 ∧ h' = [(0, some (planP th 0 hs ws))] := by
  have hcn := mcsNew_bad th 0 hs ws h m hm hb
  refine spec_of_ev Tryz.func64 ic64_eq (rs := [.t 4, .t 5]) (by kernel_rfl) (by kernel_rfl) (by kernel_rfl) fun G hP hA => ?_
  unfold evF ic64
  conv => whnf
  (refine call_auto hP (hcn) ?_; conv => whnf); (refine ⟨⟨rfl, rfl, rfl, has_a, rfl, rfl⟩, ?_⟩; conv => whnf)
  (refine fin_auto ?_; conv => whnf); exact ⟨rfl, rfl, rfl, rfl, has_a, rfl⟩
theorem lay4_ok (th : Int) (hs ws h : Nat → Int) (m : Nat) (start slots pool budget glob loc : Int) (hm : 1 ≤ m ∧ m ≤ 64) (hb : anyZ badH h m = false) :
    FSpec Tryz.prog 64 [(0, some (planP th 0 hs ws)), (1, some (.ro 1 m (numE h)))] 2 [.l (.p 0 0 0 0), confA 4 1 m start slots pool budget glob loc] fun x h' k =>
      x = .t [.l (.i 230 2), .l (.v (.int .i64 0))] ∧ k = 3 ∧ h' = [(0, some (planP th (1 + 2 * m) (mcsHs hs 0 h m) (mcsWs ws 0 m))), (2, some (mcsP0 m 0 (fun _ => 0) (fun _ => -1) (fun _ => 0) fun _ => 0))] := by
  have hcn := mcsNew_ok th 0 hs ws h m (by omega) hm hb
  rw [show 0 + 1 + 2 * m = 1 + 2 * m by omega] at hcn
  refine spec_of_ev Tryz.func64 ic64_eq (rs := [.t 4, .t 5]) (by kernel_rfl) (by kernel_rfl) (by kernel_rfl) fun G hP hA => ?_
  unfold evF ic64
  conv => whnf
  (refine call_auto hP (hcn) ?_; conv => whnf); (refine ⟨⟨rfl, rfl, rfl, has_a, rfl, rfl⟩, ?_⟩; conv => whnf)
  (refine fin_auto ?_; conv => whnf); exact ⟨rfl, rfl, rfl, rfl, has_a, rfl⟩
theorem mcsHs_good {hs h : Nat → Int} {m : Nat} (hm : 1 ≤ m) (hb : anyZ badH h m = false) : anyZ badH (mcsHs hs 0 h m) (1 + 2 * m) = false := by
  have h0 := anyZ_false.1 hb
  exact anyZ_false.2 (rows_all (Q := fun x => badH x = false) (q := 2) (m := 1) (fun j hj => tail_all (Q := fun x => badH x = false) (fun j hj => absurd hj (Nat.not_lt_zero _)) (h0 0 hm) j) m h0)
theorem buildNew4_ok (h : Nat → Int) (m : Nat) (start slots pool budget glob loc : Int) (hm : 1 ≤ m ∧ m ≤ 64) (hb : anyZ badH h m = false) :
    FSpec Tryz.prog 33 [(0, some (.ro 1 m (numE h)))] 1 [confA 4 0 m start slots pool budget glob loc] fun x h' k =>
      x = .t [.l (.i 230 1), .l (.p 2 0 0 0), .l (.v (.int .i64 0))] ∧ k = 3 ∧ h' = [(1, some (.ob [2] (PackR (mcsH1 m 0 (fun _ => 0) (fun _ => -1) (fun _ => 0) fun _ => 0) 4))),
        (2, some (portP m (1 + 2 * m) (cutF (mcsWs (fun _ => 0) 0 m) (1 + 2 * m)) (mcsHs (fun _ => 0) 0 h m) (fun _ => 0) (fun _ => 0) (fun _ => 0) fun _ => 0))] := by
  have hpn := planNew_spec (m : Int) (fun _ => 0) fun _ => 0
  have hly := lay4_ok (m : Int) (fun _ => 0) (fun _ => 0) h m start slots pool budget glob loc hm hb
  have hpp := planPort_ok m (1 + 2 * m) (mcsHs (fun _ => 0) 0 h m) (mcsWs (fun _ => 0) 0 m) hm (by omega) (mcsHs_good hm.1 hb)
  have hu := mcsUse_spec m 0 (fun _ => 0) (fun _ => -1) (fun _ => 0) fun _ => 0
  refine spec_of_ev Tryz.func33 ic33_eq (rs := [.t 2, .t 3, .t 4]) (by kernel_rfl) (by kernel_rfl) (by kernel_rfl) fun G hP hA => ?_
  unfold evF ic33
  conv => whnf
  (repeat' (first | (refine And.intro (by (first | omega | assumption | (simp only [nadd_eq]; omega) | (simp [nadd_eq]; omega))) ?_; conv => whnf) | (refine arI64 (by omega) (by omega) ?_; conv => whnf) | (refine arU32 (by omega) (by omega) ?_; conv => whnf) | (refine arU8 (by omega) (by omega) ?_; conv => whnf)))
  (refine call_auto hP (hpn) ?_; conv => whnf); (refine ⟨⟨rfl, rfl, rfl, has_a, rfl, rfl⟩, ?_⟩; conv => whnf)
  (refine call_auto hP (hly) ?_; conv => whnf); (refine ⟨⟨rfl, rfl, rfl, has_a, rfl, rfl⟩, ?_⟩; conv => whnf)
  (refine call_auto hP (hpp) ?_; conv => whnf); (refine ⟨⟨rfl, rfl, rfl, has_a, rfl, rfl⟩, ?_⟩; conv => whnf)
  refine inv_own hP invUse_mcs ?_
  (refine call_auto hP (hu) ?_; conv => whnf); (refine ⟨⟨rfl, rfl, rfl, has_a, rfl, rfl⟩, ?_⟩; conv => whnf)
  (refine fin_auto ?_; conv => whnf); exact ⟨rfl, rfl, rfl, rfl, has_a, rfl⟩
end Go.Proofs.YtlkfolopbehikaaGreat
set_option linter.unusedSimpArgs false
set_option linter.unusedVariables false
namespace Go.Proofs.YtlkfolopbehikaaGreat
open Go Go.Sx

theorem badHier_spec (v : Int) : FSpec Tryz.prog 139 [] 0 [.l (.v (.int .i64 v))] fun x h n => x = sBool (badH v) ∧ n = 0 ∧ h = [] := by
  refine spec_of_ev Tryz.func139 ic139_eq (rs := [.t 2]) (by kernel_rfl) (by kernel_rfl) (by kernel_rfl) fun G hP hA => ?_
  unfold evF ic139
  conv => whnf
  (repeat' (first | (refine join_plain ?_; conv => whnf) | (refine dsplit (fun _ => ?_) (fun _ => ?_) <;> conv => whnf)))
  all_goals (((refine fin_auto ?_; conv => whnf); refine ⟨rfl, rfl, rfl, bool_fin ?_, has_a, rfl⟩); unfold badH; rw [Bool.eq_iff_iff]; simp; omega)
theorem packMax_spec : FSpec Tryz.prog 140 [] 0 [.l (.v (.int .i64 1073741823)), .l (.v (.bool false)), .l (.v (.bool false))] fun x h n => x = sInt .u32 4294967292 ∧ n = 0 ∧ h = [] := by
  refine spec_of_ev Tryz.func140 ic140_eq (rs := [.t 6]) (by kernel_rfl) (by kernel_rfl) (by kernel_rfl) fun G hP hA => ?_
  unfold evF ic140
  conv => whnf
  (repeat' (first | (refine And.intro (by (first | omega | assumption | (simp only [nadd_eq]; omega) | (simp [nadd_eq]; omega))) ?_; conv => whnf) | (refine arI64 (by omega) (by omega) ?_; conv => whnf) | (refine arU32 (by omega) (by omega) ?_; conv => whnf) | (refine arU8 (by omega) (by omega) ?_; conv => whnf)))
  (repeat' (first | (refine join_plain ?_; conv => whnf) | (refine dsplit (fun _ => ?_) (fun _ => ?_) <;> conv => whnf)))
  (refine fin_auto ?_; conv => whnf); exact ⟨rfl, rfl, rfl, rfl, has_a, rfl⟩
def hierE (cl no ah la wo sp : Nat → Int) : Nat → List Value := fun i => [.int .i64 (cl i), .int .i64 (no i), .int .i64 (ah i), .int .i64 (la i), .int .u32 (wo i), .int .i64 (sp i)]
/-- A hierarchical lock that uses no port yet; .. with its port. -/
def hierH0 (n : Nat) (tail : Int) (st dl cl no ah la wo sp : Nat → Int) : Heap := [(0, some (.st [.p 1 0 0 0, .v (.pointer none), .v (.int .i64 tail), .s 2 6 0 n 0])), (1, some (seatP n st dl false false)), (2, some (.ar 6 n (hierE cl no ah la wo sp)))]
def hierP0 (n : Nat) (tail : Int) (st dl cl no ah la wo sp : Nat → Int) : Ent := .ob [] (PackR (hierH0 n tail st dl cl no ah la wo sp) 3)
def hierH1 (n : Nat) (tail : Int) (st dl cl no ah la wo sp : Nat → Int) : Heap := [(0, some (.st [.p 2 0 0 0, .p 1 0 0 0, .v (.int .i64 tail), .s 3 6 0 n 0])), (2, some (seatP n st dl false false)), (3, some (.ar 6 n (hierE cl no ah la wo sp)))]
def hierHs (hs : Nat → Int) (m : Nat) (h : Nat → Int) (n : Nat) : Nat → Int := tailF (snocF (snocF (tailF hs m (h 0)) (m + 1) (fun i => i) 8) (m + 1 + 8) h n) (m + 1 + 8 + n) (h 0)
def hierWs (ws : Nat → Int) (m n : Nat) : Nat → Int := tailF (snocF (snocF (tailF ws m ((n : Int) + 1)) (m + 1) (fun _ => 0) 8) (m + 1 + 8) (fun _ => 0) n) (m + 1 + 8 + n) 4294967292
theorem hierNew_bad (th : Int) (M : Nat) (hs ws h : Nat → Int) (m : Nat) (hm : m ≤ 80) (hb : m < 1 ∨ 64 < m ∨ anyZ badH h m = true) :
    FSpec Tryz.prog 110 [(0, some (planP th M hs ws)), (1, some (.ro 1 m (numE h)))] 2 [.l (.p 0 0 0 0), .l (.s 1 1 0 m 0)] fun x h' k =>
      x = .t [.l (.v (.pointer none)), .l (.v (.int .i64 1))] ∧ k = 2 ∧ h' = [(0, some (planP th M hs ws))] := by
  refine spec_of_ev Tryz.func110 ic110_eq (rs := [.t 4, .t 5]) (by kernel_rfl) (by kernel_rfl) (by kernel_rfl) fun G hP hA => ?_
  unfold evF ic110
  by_cases h1 : m < 1 ∨ 64 < m
  · have hse := seatNew_bad (m : Int) false false (by omega)
    conv => whnf
    (refine call_auto hP (hse) ?_; conv => whnf); (refine ⟨⟨rfl, rfl, rfl, has_a, rfl, rfl⟩, ?_⟩; conv => whnf)
    (refine fin_auto ?_; conv => whnf); exact ⟨rfl, rfl, rfl, rfl, has_a, rfl⟩
  · have hse := seatNew_ok m false false (by omega)
    have hcf := containsf_spec 139 badH badHier_spec h m (by omega)
    rw [show anyZ badH h m = true from by rcases hb with hb | hb | hb <;> first | exact hb | omega] at hcf
    conv => whnf
    (refine call_auto hP (hse) ?_; conv => whnf); (refine ⟨⟨rfl, rfl, rfl, has_a, rfl, rfl⟩, ?_⟩; conv => whnf)
    (refine call_auto hP (hcf) ?_; conv => whnf); (refine ⟨⟨rfl, rfl, rfl, has_a, rfl, rfl⟩, ?_⟩; conv => whnf)
    (refine fin_auto ?_; conv => whnf); exact ⟨rfl, rfl, rfl, rfl, has_a, rfl⟩
set_option maxHeartbeats 1000000 in
theorem hierNew_ok (th : Int) (M : Nat) (hs ws h : Nat → Int) (m : Nat) (hM : M ≤ 10000) (hm : 1 ≤ m ∧ m ≤ 64) (hb : anyZ badH h m = false) :
    FSpec Tryz.prog 110 [(0, some (planP th M hs ws)), (1, some (.ro 1 m (numE h)))] 2 [.l (.p 0 0 0 0), .l (.s 1 1 0 m 0)] fun x h' k =>
      x = .t [.l (.p 2 0 0 0), .l (.v (.int .i64 0))] ∧ k = 3 ∧ h' = [(0, some (planP th (M + 1 + 8 + m + 1) (hierHs hs M h m) (hierWs ws M m))), (2, some (hierP0 m M (fun _ => 0) (fun _ => -1) h (fun i => i + 1) (fun _ => 0) (fun _ => 0) (fun _ => 0) fun _ => 0))] := by
  have hse := seatNew_ok m false false (by omega)
  have hcf := containsf_spec 139 badH badHier_spec h m (by omega)
  rw [hb] at hcf
  have hw1 := word_spec th M hs ws (h 0) ((m : Int) + 1) (by omega)
  refine spec_of_ev Tryz.func110 ic110_eq (rs := [.t 4, .t 5]) (by kernel_rfl) (by kernel_rfl) (by kernel_rfl) fun G hP hA => ?_
  unfold evF ic110
  conv => whnf
  (refine call_auto hP (hse) ?_; conv => whnf); (refine ⟨⟨rfl, rfl, rfl, has_a, rfl, rfl⟩, ?_⟩; conv => whnf)
  (refine call_auto hP (hcf) ?_; conv => whnf); (refine ⟨⟨rfl, rfl, rfl, has_a, rfl, rfl⟩, ?_⟩; conv => whnf)
  (repeat' (first | (refine And.intro (by (first | omega | assumption | (simp only [nadd_eq]; omega) | (simp [nadd_eq]; omega))) ?_; conv => whnf) | (refine arI64 (by omega) (by omega) ?_; conv => whnf) | (refine arU32 (by omega) (by omega) ?_; conv => whnf) | (refine arU8 (by omega) (by omega) ?_; conv => whnf)))
  (refine call_auto hP (hw1) ?_; conv => whnf); (refine ⟨⟨rfl, rfl, rfl, has_a, rfl, rfl⟩, ?_⟩; conv => whnf)
  refine loop_auto (α := Nat) (ds := []) (N := 4) (fun i => [(38, sInt .i64 (i : Int))]) []
    (fun i => [(0, some (planP th (M + 1 + i) (snocF (tailF hs M (h 0)) (M + 1) (fun i => i) i) (snocF (tailF ws M ((m : Int) + 1)) (M + 1) (fun _ => 0) i)))])
    (fun i => i ≤ 8) (fun i => 8 - i) 0 (Nat.zero_le _) ?_ fun i hi => ?_
  · (conv => whnf); (refine imp_auto hA ?_; conv => whnf); exact ⟨rfl, rfl, rfl, regs_a, has_a, rfl⟩
  have hwi := word_spec th (M + 1 + i) (snocF (tailF hs M (h 0)) (M + 1) (fun i => i) i) (snocF (tailF ws M ((m : Int) + 1)) (M + 1) (fun _ => 0) i) (i : Int) 0 (by omega)
  conv => whnf
  refine dsplit (fun h1 => ?_) (fun h1 => ?_)
  · conv => whnf
    (refine call_auto hP (hwi) ?_; conv => whnf); (refine ⟨⟨rfl, rfl, rfl, has_a, rfl, rfl⟩, ?_⟩; conv => whnf)
    (repeat' (first | (refine And.intro (by (first | omega | assumption | (simp only [nadd_eq]; omega) | (simp [nadd_eq]; omega))) ?_; conv => whnf) | (refine arI64 (by omega) (by omega) ?_; conv => whnf) | (refine arU32 (by omega) (by omega) ?_; conv => whnf) | (refine arU8 (by omega) (by omega) ?_; conv => whnf)))
    refine ⟨i + 1, by omega, by omega, ?_⟩
    (conv => whnf); (refine imp_auto hA ?_; conv => whnf); exact ⟨rfl, rfl, rfl, regs_a, has_a, rfl⟩
  obtain rfl : i = 8 := by omega
  generalize hA1 : snocF (tailF hs M (h 0)) (M + 1) (fun i => i) 8 = hs8
  generalize hA2 : snocF (tailF ws M ((m : Int) + 1)) (M + 1) (fun _ => 0) 8 = ws8
  conv => whnf
  refine loop_auto (α := Nat) (ds := []) (N := 5) (fun i => [(47, sInt .i64 (i : Int))]) []
    (fun i => [(0, some (planP th (M + 1 + 8 + i) (snocF hs8 (M + 1 + 8) h i) (snocF ws8 (M + 1 + 8) (fun _ => 0) i))), (3, some (.st [.p 2 0 0 0, .v (.pointer none), .v (.int .i64 M), .s 4 6 0 i 0])), (4, some (.ar 6 i (hierE h (fun i => i + 1) (fun _ => 0) (fun _ => 0) (fun _ => 0) fun _ => 0)))])
    (fun i => i ≤ m) (fun i => m - i) 0 (Nat.zero_le _) ?_ fun i hi => ?_
  · conv => whnf
    refine Imp.trans (imp_ghost (GSpec.nilc 3 3 6 (hierE h (fun i => i + 1) (fun _ => 0) (fun _ => 0) (fun _ => 0) fun _ => 0) rfl rfl)) ?_
    (conv => whnf); (refine imp_auto hA ?_; conv => whnf); exact ⟨rfl, rfl, rfl, regs_a, has_a, rfl⟩
  have hni : nadd 0 ((i : Nat) : Int).toNat = i := by simp [nadd_eq]
  have hwi := word_spec th (M + 1 + 8 + i) (snocF hs8 (M + 1 + 8) h i) (snocF ws8 (M + 1 + 8) (fun _ => 0) i) (h i) 0 (by omega)
  conv => whnf
  refine dsplit (fun h1 => ?_) (fun h1 => ?_)
  · conv => whnf
    (repeat' (first | (refine And.intro (by (first | omega | assumption | (simp only [nadd_eq]; omega) | (simp [nadd_eq]; omega))) ?_; conv => whnf) | (refine arI64 (by omega) (by omega) ?_; conv => whnf) | (refine arU32 (by omega) (by omega) ?_; conv => whnf) | (refine arU8 (by omega) (by omega) ?_; conv => whnf)))
    rw [hni]
    conv => whnf
    (refine call_auto hP (hwi) ?_; conv => whnf); (refine ⟨⟨rfl, rfl, rfl, has_a, rfl, rfl⟩, ?_⟩; conv => whnf)
    (repeat' (first | (refine And.intro (by (first | omega | assumption | (simp only [nadd_eq]; omega) | (simp [nadd_eq]; omega))) ?_; conv => whnf) | (refine arI64 (by omega) (by omega) ?_; conv => whnf) | (refine arU32 (by omega) (by omega) ?_; conv => whnf) | (refine arU8 (by omega) (by omega) ?_; conv => whnf)))
    refine ⟨i + 1, by omega, by omega, ?_⟩
    (conv => whnf); (refine imp_auto hA ?_; conv => whnf); refine ⟨rfl, rfl, rfl, regs_a, ?_, rfl⟩
    refine ⟨has_a, rfl, ⟨rfl, rfl, fun j hj => ?_⟩, has_a⟩
    refine snoc_rows (f := hierE h (fun i => i + 1) (fun _ => 0) (fun _ => 0) (fun _ => 0) fun _ => 0) (i := i) rfl j hj
  obtain rfl : i = m := by omega
  have hwl := word_spec th (M + 1 + 8 + i) (snocF hs8 (M + 1 + 8) h i) (snocF ws8 (M + 1 + 8) (fun _ => 0) i) (h 0) 4294967292 (by omega)
  have hpm := packMax_spec
  conv => whnf
  (refine drawP_lazy (by rw [hP]; exact follows) 60 (by kernel_rfl) ?_; conv => whnf)
  repeat' (first | (refine And.intro (by first | omega | (simp [nadd_eq]; omega)) ?_; conv => whnf) | (refine And.intro ?_ ?_ <;> (conv => whnf)))
  all_goals (refine callD_auto hP (hpm) ?_; conv => whnf); (refine ⟨⟨rfl, rfl, rfl, has_a, rfl, rfl⟩, ?_⟩; conv => whnf)
  repeat' (first | (refine And.intro (by first | omega | (simp [nadd_eq]; omega)) ?_; conv => whnf) | (refine And.intro ?_ ?_ <;> (conv => whnf)))
  all_goals (refine callD_auto hP (hwl) ?_; conv => whnf); (refine ⟨⟨rfl, rfl, rfl, has_a, rfl, rfl⟩, ?_⟩; conv => whnf)
  repeat' (first | (refine And.intro (by first | omega | (simp [nadd_eq]; omega)) ?_; conv => whnf) | (refine And.intro ?_ ?_ <;> (conv => whnf)))
  all_goals ((refine fin_close (H := (hierH0 i M (fun _ => 0) (fun _ => -1) h (fun i => i + 1) (fun _ => 0) (fun _ => 0) (fun _ => 0) fun _ => 0)) (np := 3) 3 0 (Nat.le_of_ble_eq_true rfl) ?_; conv => whnf); (refine ⟨⟨rfl, by omega, rfl, rfl, has_a, rfl⟩, ?_⟩); subst hA1; subst hA2; (refine fin_auto ?_; conv => whnf); exact ⟨rfl, rfl, rfl, rfl, has_a, rfl⟩)
end Go.Proofs.YtlkfolopbehikaaGreat
set_option linter.unusedSimpArgs false
set_option linter.unusedVariables false
namespace Go.Proofs.YtlkfolopbehikaaGreat
open Go Go.Sx

theorem hierUse_spec (n : Nat) (tail : Int) (st dl cl no ah la wo sp : Nat → Int) :
    FSpec Tryz.prog 261 [(0, some (hierP0 n tail st dl cl no ah la wo sp))] 2 [.l (.p 0 0 0 0), .l (.p 1 0 0 0)] fun x h k =>
      x = .t [] ∧ k = 2 ∧ h = [(0, some (packE (hierH1 n tail st dl cl no ah la wo sp) 4 1))] := by
  refine spec_of_ev_g (open_at 0 (h := [(0, some (hierP0 n tail st dl cl no ah la wo sp))]) (n := 2) (ks := []) (H := hierH0 n tail st dl cl no ah la wo sp) (np := 3) rfl (by decide) rfl rfl rfl) Tryz.func261 ic261_eq (rs := []) (by kernel_rfl) (by kernel_rfl) (by kernel_rfl) fun G hP hA => ?_
  unfold evF ic261
  conv => whnf
  (refine fin_close (H := (hierH1 n tail st dl cl no ah la wo sp)) (np := 4) 0 1 (Nat.le_of_ble_eq_true rfl) ?_; conv => whnf); (refine ⟨⟨rfl, by omega, rfl, rfl, has_a, rfl⟩, ?_⟩)
  (refine fin_auto ?_; conv => whnf); exact ⟨rfl, rfl, rfl, rfl, has_a, rfl⟩
theorem invUse_hier (v : Value) (args : Array Value) (w : World) : (callMethod (.iface 236 v) "Use" args).run Tryz.prog w = .ok (.enter 261 (#[v] ++ args)) w := by kernel_rfl
theorem lay6_bad (th : Int) (hs ws h : Nat → Int) (m : Nat) (start slots pool budget glob loc : Int) (hm : m ≤ 80) (hb : m < 1 ∨ 64 < m ∨ anyZ badH h m = true) :
    FSpec Tryz.prog 64 [(0, some (planP th 0 hs ws)), (1, some (.ro 1 m (numE h)))] 2 [.l (.p 0 0 0 0), confA 6 1 m start slots pool budget glob loc] fun x h' k =>
      x = .t [.l (.v (.iface 236 (.pointer none))), .l (.v (.int .i64 1))] ∧ k = 2 ∧ h' = [(0, some (planP th 0 hs ws))] := by
  have hcn := hierNew_bad th 0 hs ws h m hm hb
  refine spec_of_ev Tryz.func64 ic64_eq (rs := [.t 4, .t 5]) (by kernel_rfl) (by kernel_rfl) (by kernel_rfl) fun G hP hA => ?_
  unfold evF ic64
  conv => whnf
  (refine call_auto hP (hcn) ?_; conv => whnf); (refine ⟨⟨rfl, rfl, rfl, has_a, rfl, rfl⟩, ?_⟩; conv => whnf)
  (refine fin_auto ?_; conv => whnf); exact ⟨rfl, rfl, rfl, rfl, has_a, rfl⟩
theorem lay6_ok (th : Int) (hs ws h : Nat → Int) (m : Nat) (start slots pool budget glob loc : Int) (hm : 1 ≤ m ∧ m ≤ 64) (hb : anyZ badH h m = false) :
    FSpec Tryz.prog 64 [(0, some (planP th 0 hs ws)), (1, some (.ro 1 m (numE h)))] 2 [.l (.p 0 0 0 0), confA 6 1 m start slots pool budget glob loc] fun x h' k =>
      x = .t [.l (.i 236 2), .l (.v (.int .i64 0))] ∧ k = 3 ∧ h' = [(0, some (planP th (10 + m) (hierHs hs 0 h m) (hierWs ws 0 m))), (2, some (hierP0 m 0 (fun _ => 0) (fun _ => -1) h (fun i => i + 1) (fun _ => 0) (fun _ => 0) (fun _ => 0) fun _ => 0))] := by
  have hcn := hierNew_ok th 0 hs ws h m (by omega) hm hb
  rw [show 0 + 1 + 8 + m + 1 = 10 + m by omega] at hcn
  refine spec_of_ev Tryz.func64 ic64_eq (rs := [.t 4, .t 5]) (by kernel_rfl) (by kernel_rfl) (by kernel_rfl) fun G hP hA => ?_
  unfold evF ic64
  conv => whnf
  (refine call_auto hP (hcn) ?_; conv => whnf); (refine ⟨⟨rfl, rfl, rfl, has_a, rfl, rfl⟩, ?_⟩; conv => whnf)
  (refine fin_auto ?_; conv => whnf); exact ⟨rfl, rfl, rfl, rfl, has_a, rfl⟩
theorem hierHs_good {hs h : Nat → Int} {m : Nat} (hm : 1 ≤ m) (hb : anyZ badH h m = false) : anyZ badH (hierHs hs 0 h m) (10 + m) = false := by
  have h0 := anyZ_false.1 hb
  refine anyZ_false.2 fun j hj => tail_all (Q := fun x => badH x = false) (fun j hj => ?_) (h0 0 hm) j
  refine snoc_all (Q := fun x => badH x = false) (m := 0 + 1 + 8) (fun j hj => ?_) m h0 j hj
  refine snoc_all (Q := fun x => badH x = false) (m := 0 + 1) (fun j hj => ?_) 8 (fun j hj => ?_) j hj
  · exact tail_all (Q := fun x => badH x = false) (fun j hj => absurd hj (Nat.not_lt_zero _)) (h0 0 hm) j
  · unfold badH; simp; omega
theorem buildNew6_ok (h : Nat → Int) (m : Nat) (start slots pool budget glob loc : Int) (hm : 1 ≤ m ∧ m ≤ 64) (hb : anyZ badH h m = false) :
    FSpec Tryz.prog 33 [(0, some (.ro 1 m (numE h)))] 1 [confA 6 0 m start slots pool budget glob loc] fun x h' k =>
      x = .t [.l (.i 236 1), .l (.p 2 0 0 0), .l (.v (.int .i64 0))] ∧ k = 3 ∧ h' = [(1, some (.ob [2] (PackR (hierH1 m 0 (fun _ => 0) (fun _ => -1) h (fun i => i + 1) (fun _ => 0) (fun _ => 0) (fun _ => 0) fun _ => 0) 4))),
        (2, some (portP m (10 + m) (cutF (hierWs (fun _ => 0) 0 m) (10 + m)) (hierHs (fun _ => 0) 0 h m) (fun _ => 0) (fun _ => 0) (fun _ => 0) fun _ => 0))] := by
  have hpn := planNew_spec (m : Int) (fun _ => 0) fun _ => 0
  have hly := lay6_ok (m : Int) (fun _ => 0) (fun _ => 0) h m start slots pool budget glob loc hm hb
  have hpp := planPort_ok m (10 + m) (hierHs (fun _ => 0) 0 h m) (hierWs (fun _ => 0) 0 m) hm (by omega) (hierHs_good hm.1 hb)
  have hu := hierUse_spec m 0 (fun _ => 0) (fun _ => -1) h (fun i => i + 1) (fun _ => 0) (fun _ => 0) (fun _ => 0) fun _ => 0
  refine spec_of_ev Tryz.func33 ic33_eq (rs := [.t 2, .t 3, .t 4]) (by kernel_rfl) (by kernel_rfl) (by kernel_rfl) fun G hP hA => ?_
  unfold evF ic33
  conv => whnf
  (repeat' (first | (refine And.intro (by (first | omega | assumption | (simp only [nadd_eq]; omega) | (simp [nadd_eq]; omega))) ?_; conv => whnf) | (refine arI64 (by omega) (by omega) ?_; conv => whnf) | (refine arU32 (by omega) (by omega) ?_; conv => whnf) | (refine arU8 (by omega) (by omega) ?_; conv => whnf)))
  (refine call_auto hP (hpn) ?_; conv => whnf); (refine ⟨⟨rfl, rfl, rfl, has_a, rfl, rfl⟩, ?_⟩; conv => whnf)
  (refine call_auto hP (hly) ?_; conv => whnf); (refine ⟨⟨rfl, rfl, rfl, has_a, rfl, rfl⟩, ?_⟩; conv => whnf)
  (refine call_auto hP (hpp) ?_; conv => whnf); (refine ⟨⟨rfl, rfl, rfl, has_a, rfl, rfl⟩, ?_⟩; conv => whnf)
  refine inv_own hP invUse_hier ?_
  (refine call_auto hP (hu) ?_; conv => whnf); (refine ⟨⟨rfl, rfl, rfl, has_a, rfl, rfl⟩, ?_⟩; conv => whnf)
  (refine fin_auto ?_; conv => whnf); exact ⟨rfl, rfl, rfl, rfl, has_a, rfl⟩
end Go.Proofs.YtlkfolopbehikaaGreat
set_option linter.unusedSimpArgs false
set_option linter.unusedVariables false
namespace Go.Proofs.YtlkfolopbehikaaGreat
open Go Go.Sx

theorem index_spec (v : Int) (h : Nat → Int) (m : Nat) (hm : m ≤ 1000000) :
    FSpec Tryz.prog 150 [(0, some (.ro 1 m (numE h)))] 1 [.l (.s 0 1 0 m 0), .l (.v (.int .i64 v))] fun x h' n => x = sInt .i64 (findZ (fun x => decide (v = x)) h 0 m) ∧ n = 1 ∧ h' = [] := by
  refine spec_of_ev Tryz.func150 ic150_eq (rs := [.t 4]) (by kernel_rfl) (by kernel_rfl) (by kernel_rfl) fun G hP hA => ?_
  unfold evF ic150
  conv => whnf
  refine loop_auto (α := Nat) (ds := []) (N := 1) (fun i => [(8, sInt .i64 (i : Int))]) [] (fun _ => [])
    (fun i => i ≤ m ∧ findZ (fun x => decide (v = x)) h 0 m = findZ (fun x => decide (v = x)) h i (m - i)) (fun i => m - i) 0 ⟨Nat.zero_le _, rfl⟩ ?_ fun i hi => ?_
  · (conv => whnf); (refine imp_auto hA ?_; conv => whnf); exact ⟨rfl, rfl, rfl, regs_a, has_a, rfl⟩
  · obtain ⟨hi0, hi1⟩ := hi
    conv => whnf
    refine dsplit (fun h1 => ?_) (fun h1 => ?_)
    · have hst : findZ (fun x => decide (v = x)) h i (m - i) = if decide (v = h i) = true then (i : Int) else findZ (fun x => decide (v = x)) h (i + 1) (m - (i + 1)) := by
        rw [show m - i = (m - (i + 1)) + 1 by omega]; rfl
      conv => whnf
      (repeat' (first | (refine And.intro (by (first | omega | assumption | (simp only [nadd_eq]; omega) | (simp [nadd_eq]; omega))) ?_; conv => whnf) | (refine arI64 (by omega) (by omega) ?_; conv => whnf) | (refine arU32 (by omega) (by omega) ?_; conv => whnf) | (refine arU8 (by omega) (by omega) ?_; conv => whnf)))
      refine dsplit (fun h2 => ?_) (fun h2 => ?_)
      · replace h2 : v = h i := h2
        conv => whnf
        (refine fin_auto ?_; conv => whnf); refine ⟨rfl, rfl, rfl, int_fin ?_, has_a, rfl⟩
        rw [hi1, hst, if_pos (decide_eq_true h2)]
      · replace h2 : ¬ v = h i := h2
        conv => whnf
        (repeat' (first | (refine And.intro (by (first | omega | assumption | (simp only [nadd_eq]; omega) | (simp [nadd_eq]; omega))) ?_; conv => whnf) | (refine arI64 (by omega) (by omega) ?_; conv => whnf) | (refine arU32 (by omega) (by omega) ?_; conv => whnf) | (refine arU8 (by omega) (by omega) ?_; conv => whnf)))
        refine ⟨i + 1, ⟨by omega, ?_⟩, by omega, ?_⟩
        · rw [hi1, hst, if_neg (by simp [h2])]
        · (conv => whnf); (refine imp_auto hA ?_; conv => whnf); exact ⟨rfl, rfl, rfl, regs_a, has_a, rfl⟩
    · obtain rfl : i = m := by omega
      conv => whnf
      (refine fin_auto ?_; conv => whnf); refine ⟨rfl, rfl, rfl, int_fin ?_, has_a, rfl⟩
      rw [hi1, Nat.sub_self]
      rfl
theorem contains_spec (v : Int) (h : Nat → Int) (m : Nat) (hm : m ≤ 1000000) :
    FSpec Tryz.prog 123 [(0, some (.ro 1 m (numE h)))] 1 [.l (.s 0 1 0 m 0), .l (.v (.int .i64 v))] fun x h' n => x = sBool (anyZ (fun x => decide (v = x)) h m) ∧ n = 1 ∧ h' = [] := by
  have hi := index_spec v h m hm
  have he := find_any (fun x => decide (v = x)) h m 0
  simp only [Nat.zero_add] at he
  refine spec_of_ev Tryz.func123 ic123_eq (rs := [.t 4]) (by kernel_rfl) (by kernel_rfl) (by kernel_rfl) fun G hP hA => ?_
  unfold evF ic123
  conv => whnf
  (refine call_auto hP (hi) ?_; conv => whnf); (refine ⟨⟨rfl, rfl, rfl, has_a, rfl, rfl⟩, ?_⟩; conv => whnf)
  (refine fin_auto ?_; conv => whnf); refine ⟨rfl, rfl, rfl, bool_fin ?_, has_a, rfl⟩
  rw [Bool.eq_iff_iff, decide_eq_true_iff]
  exact he
/-- How many slots there may be: 1, 2, 4 .. 64. -/
def sizN : Nat → Int
  | 0 => 1
  | 1 => 2
  | 2 => 4
  | 3 => 8
  | 4 => 16
  | 5 => 32
  | 6 => 64
  | _ => 128
theorem shl_step {a b : Int} {K : Int → Prop} (h : IntKind.i64.wrap (a * 2 ^ (min (1 : Int).toNat IntKind.i64.bits)) = b) (hk : K b) : ShlP .i64 a 1 K := ⟨⟨by decide, by rw [h]; exact hk⟩⟩
theorem sizes_spec : FSpec Tryz.prog 132 [] 0 [] fun x h n => x = .o (.l (.s 0 1 0 7 0)) ∧ n = 1 ∧ h = [(0, some (.ar 1 7 (numE sizN)))] := by
  refine spec_of_ev Tryz.func132 ic132_eq (rs := [.t 0]) (by kernel_rfl) (by kernel_rfl) (by kernel_rfl) fun G hP hA => ?_
  unfold evF ic132
  conv => whnf
  refine loop_auto (α := Nat) (ds := []) (N := 1) (fun i => [(1, .o (.l (.s 0 1 0 i 0))), (2, sInt .i64 (sizN i))]) [] (fun i => [(0, some (.ar 1 i (numE sizN)))])
    (fun i => i ≤ 7) (fun i => 7 - i) 0 (Nat.zero_le _) ?_ fun i hi => ?_
  · conv => whnf
    refine Imp.trans (imp_nil 1 1 (numE sizN) rfl) ?_
    (conv => whnf); (refine imp_auto hA ?_; conv => whnf); exact ⟨rfl, rfl, rfl, regs_a, has_a, rfl⟩
  · rcases (show i = 0 ∨ i = 1 ∨ i = 2 ∨ i = 3 ∨ i = 4 ∨ i = 5 ∨ i = 6 ∨ i = 7 by omega) with rfl | rfl | rfl | rfl | rfl | rfl | rfl | rfl
    · conv => whnf
      (repeat' (first | (refine And.intro (by (first | omega | assumption | (simp only [nadd_eq]; omega) | (simp [nadd_eq]; omega))) ?_; conv => whnf) | (refine arI64 (by omega) (by omega) ?_; conv => whnf) | (refine arU32 (by omega) (by omega) ?_; conv => whnf) | (refine arU8 (by omega) (by omega) ?_; conv => whnf)))
      refine shl_step (b := sizN 1) (by decide +kernel) ?_
      conv => whnf
      refine ⟨1, by omega, by omega, ?_⟩
      (conv => whnf); (refine imp_auto hA ?_; conv => whnf); refine ⟨rfl, rfl, rfl, regs_a, ?_, rfl⟩
      refine And.intro (And.intro rfl (And.intro rfl fun j hj => ?_)) has_a
      obtain rfl : j = 0 := by omega
      rfl
    · conv => whnf
      (repeat' (first | (refine And.intro (by (first | omega | assumption | (simp only [nadd_eq]; omega) | (simp [nadd_eq]; omega))) ?_; conv => whnf) | (refine arI64 (by omega) (by omega) ?_; conv => whnf) | (refine arU32 (by omega) (by omega) ?_; conv => whnf) | (refine arU8 (by omega) (by omega) ?_; conv => whnf)))
      refine shl_step (b := sizN 2) (by decide +kernel) ?_
      conv => whnf
      refine ⟨2, by omega, by omega, ?_⟩
      (conv => whnf); (refine imp_auto hA ?_; conv => whnf); refine ⟨rfl, rfl, rfl, regs_a, ?_, rfl⟩
      refine And.intro (And.intro rfl (And.intro rfl fun j hj => ?_)) has_a
      exact snoc_rows (f := numE sizN) (i := 1) rfl j hj
    · conv => whnf
      (repeat' (first | (refine And.intro (by (first | omega | assumption | (simp only [nadd_eq]; omega) | (simp [nadd_eq]; omega))) ?_; conv => whnf) | (refine arI64 (by omega) (by omega) ?_; conv => whnf) | (refine arU32 (by omega) (by omega) ?_; conv => whnf) | (refine arU8 (by omega) (by omega) ?_; conv => whnf)))
      refine shl_step (b := sizN 3) (by decide +kernel) ?_
      conv => whnf
      refine ⟨3, by omega, by omega, ?_⟩
      (conv => whnf); (refine imp_auto hA ?_; conv => whnf); refine ⟨rfl, rfl, rfl, regs_a, ?_, rfl⟩
      refine And.intro (And.intro rfl (And.intro rfl fun j hj => ?_)) has_a
      exact snoc_rows (f := numE sizN) (i := 2) rfl j hj
    · conv => whnf
      (repeat' (first | (refine And.intro (by (first | omega | assumption | (simp only [nadd_eq]; omega) | (simp [nadd_eq]; omega))) ?_; conv => whnf) | (refine arI64 (by omega) (by omega) ?_; conv => whnf) | (refine arU32 (by omega) (by omega) ?_; conv => whnf) | (refine arU8 (by omega) (by omega) ?_; conv => whnf)))
      refine shl_step (b := sizN 4) (by decide +kernel) ?_
      conv => whnf
      refine ⟨4, by omega, by omega, ?_⟩
      (conv => whnf); (refine imp_auto hA ?_; conv => whnf); refine ⟨rfl, rfl, rfl, regs_a, ?_, rfl⟩
      refine And.intro (And.intro rfl (And.intro rfl fun j hj => ?_)) has_a
      exact snoc_rows (f := numE sizN) (i := 3) rfl j hj
    · conv => whnf
      (repeat' (first | (refine And.intro (by (first | omega | assumption | (simp only [nadd_eq]; omega) | (simp [nadd_eq]; omega))) ?_; conv => whnf) | (refine arI64 (by omega) (by omega) ?_; conv => whnf) | (refine arU32 (by omega) (by omega) ?_; conv => whnf) | (refine arU8 (by omega) (by omega) ?_; conv => whnf)))
      refine shl_step (b := sizN 5) (by decide +kernel) ?_
      conv => whnf
      refine ⟨5, by omega, by omega, ?_⟩
      (conv => whnf); (refine imp_auto hA ?_; conv => whnf); refine ⟨rfl, rfl, rfl, regs_a, ?_, rfl⟩
      refine And.intro (And.intro rfl (And.intro rfl fun j hj => ?_)) has_a
      exact snoc_rows (f := numE sizN) (i := 4) rfl j hj
    · conv => whnf
      (repeat' (first | (refine And.intro (by (first | omega | assumption | (simp only [nadd_eq]; omega) | (simp [nadd_eq]; omega))) ?_; conv => whnf) | (refine arI64 (by omega) (by omega) ?_; conv => whnf) | (refine arU32 (by omega) (by omega) ?_; conv => whnf) | (refine arU8 (by omega) (by omega) ?_; conv => whnf)))
      refine shl_step (b := sizN 6) (by decide +kernel) ?_
      conv => whnf
      refine ⟨6, by omega, by omega, ?_⟩
      (conv => whnf); (refine imp_auto hA ?_; conv => whnf); refine ⟨rfl, rfl, rfl, regs_a, ?_, rfl⟩
      refine And.intro (And.intro rfl (And.intro rfl fun j hj => ?_)) has_a
      exact snoc_rows (f := numE sizN) (i := 5) rfl j hj
    · conv => whnf
      (repeat' (first | (refine And.intro (by (first | omega | assumption | (simp only [nadd_eq]; omega) | (simp [nadd_eq]; omega))) ?_; conv => whnf) | (refine arI64 (by omega) (by omega) ?_; conv => whnf) | (refine arU32 (by omega) (by omega) ?_; conv => whnf) | (refine arU8 (by omega) (by omega) ?_; conv => whnf)))
      refine shl_step (b := sizN 7) (by decide +kernel) ?_
      conv => whnf
      refine ⟨7, by omega, by omega, ?_⟩
      (conv => whnf); (refine imp_auto hA ?_; conv => whnf); refine ⟨rfl, rfl, rfl, regs_a, ?_, rfl⟩
      refine And.intro (And.intro rfl (And.intro rfl fun j hj => ?_)) has_a
      exact snoc_rows (f := numE sizN) (i := 6) rfl j hj
    · conv => whnf
      (repeat' (first | (refine And.intro (by (first | omega | assumption | (simp only [nadd_eq]; omega) | (simp [nadd_eq]; omega))) ?_; conv => whnf) | (refine arI64 (by omega) (by omega) ?_; conv => whnf) | (refine arU32 (by omega) (by omega) ?_; conv => whnf) | (refine arU8 (by omega) (by omega) ?_; conv => whnf)))
      (refine fin_auto ?_; conv => whnf); exact ⟨rfl, rfl, rfl, rfl, has_a, rfl⟩
end Go.Proofs.YtlkfolopbehikaaGreat
set_option linter.unusedSimpArgs false
set_option linter.unusedVariables false
namespace Go.Proofs.YtlkfolopbehikaaGreat
open Go Go.Sx

theorem buildNew_bad (h : Nat → Int) (m : Nat) (kind start slots pool budget glob loc e : Int) (a : Value) (M : Nat) (hs ws : Nat → Int) (he : e ≠ 0)
    (hly : FSpec Tryz.prog 64 [(0, some (planP (m : Int) 0 (fun _ => 0) fun _ => 0)), (1, some (.ro 1 m (numE h)))] 2 [.l (.p 0 0 0 0), confA kind 1 m start slots pool budget glob loc] fun x h' k =>
      x = .t [.l (.v a), .l (.v (.int .i64 e))] ∧ k = 2 ∧ h' = [(0, some (planP (m : Int) M hs ws))]) :
    FSpec Tryz.prog 33 [(0, some (.ro 1 m (numE h)))] 1 [confA kind 0 m start slots pool budget glob loc] fun x h' k =>
      x = .t [.l (.v .nilIface), .l (.v (.pointer none)), .l (.v (.int .i64 e))] ∧ k = 1 ∧ h' = [] := by
  have hpn := planNew_spec (m : Int) (fun _ => 0) fun _ => 0
  refine spec_of_ev Tryz.func33 ic33_eq (rs := [.t 2, .t 3, .t 4]) (by kernel_rfl) (by kernel_rfl) (by kernel_rfl) fun G hP hA => ?_
  unfold evF ic33
  conv => whnf
  (repeat' (first | (refine And.intro (by (first | omega | assumption | (simp only [nadd_eq]; omega) | (simp [nadd_eq]; omega))) ?_; conv => whnf) | (refine arI64 (by omega) (by omega) ?_; conv => whnf) | (refine arU32 (by omega) (by omega) ?_; conv => whnf) | (refine arU8 (by omega) (by omega) ?_; conv => whnf)))
  (refine call_auto hP (hpn) ?_; conv => whnf); (refine ⟨⟨rfl, rfl, rfl, has_a, rfl, rfl⟩, ?_⟩; conv => whnf)
  (refine call_auto hP (hly) ?_; conv => whnf); (refine ⟨⟨rfl, rfl, rfl, has_a, rfl, rfl⟩, ?_⟩; conv => whnf)
  refine dsplit (fun h1 => ?_) (fun h1 => absurd (show e ≠ 0 from he) h1)
  conv => whnf
  (refine fin_auto ?_; conv => whnf); exact ⟨rfl, rfl, rfl, rfl, has_a, rfl⟩
end Go.Proofs.YtlkfolopbehikaaGreat
