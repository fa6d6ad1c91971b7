/- Locks: a counter's slot; Anderson's lock, made. · Locks: pools, made. · Locks: a queue lock that can be given up, made. · Locks: Anderson's, and those that can be given up, with their port; laid and built. · Locks: what a lock of locks is made of. · Locks: locks of locks, made. · Locks: locks of locks, made where all is well. · Locks: locks of locks, with their port; laid and built. · What is wrong with a configuration, by the document. · The depth of any configuration, by the document. · Locks: what isn't built, and why; the depth of any configuration. -/
import Derived.Test.YtlkfolopbehikaaGreatMa
import Derived.Test.YtlkfolopbehikaaGreatSxPR
import Derived.Test.YtlkfolopbehikaaGreatSxPS
set_option linter.unusedSimpArgs false
set_option linter.unusedVariables false
namespace Go.Proofs.YtlkfolopbehikaaGreat
open Go Go.Sx

theorem and_mask (u : Nat) (j : Nat) (hu : u < 4294967296) (hj : j ≤ 31) : bitZ .and .u32 (u : Int) ((2 ^ j - 1 : Nat) : Int) = ((u % 2 ^ j : Nat) : Int) := by
  have h2 : 2 ^ j ≤ 2 ^ 31 := Nat.pow_le_pow_right (by omega) hj
  have h3 : u % 2 ^ j < 2 ^ j := Nat.mod_lt _ (Nat.two_pow_pos j)
  have e1 : (BitVec.ofInt 32 (u : Int) &&& BitVec.ofInt 32 ((2 ^ j - 1 : Nat) : Int)).toNat = u % 2 ^ j := by
    rw [BitVec.toNat_and, BitVec.ofInt_natCast, BitVec.ofInt_natCast, BitVec.toNat_ofNat, BitVec.toNat_ofNat, Nat.mod_eq_of_lt (by omega : u < 2 ^ 32), Nat.mod_eq_of_lt (by omega : 2 ^ j - 1 < 2 ^ 32)]
    exact Nat.and_two_pow_sub_one_eq_mod u j
  show IntKind.wrap .u32 ((BitVec.ofInt 32 (u : Int) &&& BitVec.ofInt 32 ((2 ^ j - 1 : Nat) : Int)).toNat : Int) = _
  rw [e1]
  generalize u % 2 ^ j = r at *
  have h4 : r < 2147483648 := Nat.lt_of_lt_of_le h3 h2
  clear e1 h3 h2
  simp [IntKind.wrap, IntKind.signed, IntKind.bits]
  omega
def isSize (n : Nat) : Prop := n = 1 ∨ n = 2 ∨ n = 4 ∨ n = 8 ∨ n = 16 ∨ n = 32 ∨ n = 64
theorem slot_spec (u n : Nat) (hu : u < 4294967296) (hn : isSize n) :
    FSpec Tryz.prog 133 [] 0 [.l (.v (.int .u32 u)), .l (.v (.int .i64 n))] fun x h k => x = sInt .i64 ((u % n : Nat) : Int) ∧ k = 0 ∧ h = [] := by
  have e0 : bitZ .and .u32 (u : Int) (((1 : Nat) : Int) - 1) = ((u % 1 : Nat) : Int) := and_mask u 0 hu (by omega)
  have b0 : -9223372036854775808 ≤ bitZ .and .u32 (u : Int) (((1 : Nat) : Int) - 1) ∧ bitZ .and .u32 (u : Int) (((1 : Nat) : Int) - 1) ≤ 9223372036854775807 := by rw [e0]; omega
  have e1 : bitZ .and .u32 (u : Int) (((2 : Nat) : Int) - 1) = ((u % 2 : Nat) : Int) := and_mask u 1 hu (by omega)
  have b1 : -9223372036854775808 ≤ bitZ .and .u32 (u : Int) (((2 : Nat) : Int) - 1) ∧ bitZ .and .u32 (u : Int) (((2 : Nat) : Int) - 1) ≤ 9223372036854775807 := by rw [e1]; omega
  have e2 : bitZ .and .u32 (u : Int) (((4 : Nat) : Int) - 1) = ((u % 4 : Nat) : Int) := and_mask u 2 hu (by omega)
  have b2 : -9223372036854775808 ≤ bitZ .and .u32 (u : Int) (((4 : Nat) : Int) - 1) ∧ bitZ .and .u32 (u : Int) (((4 : Nat) : Int) - 1) ≤ 9223372036854775807 := by rw [e2]; omega
  have e3 : bitZ .and .u32 (u : Int) (((8 : Nat) : Int) - 1) = ((u % 8 : Nat) : Int) := and_mask u 3 hu (by omega)
  have b3 : -9223372036854775808 ≤ bitZ .and .u32 (u : Int) (((8 : Nat) : Int) - 1) ∧ bitZ .and .u32 (u : Int) (((8 : Nat) : Int) - 1) ≤ 9223372036854775807 := by rw [e3]; omega
  have e4 : bitZ .and .u32 (u : Int) (((16 : Nat) : Int) - 1) = ((u % 16 : Nat) : Int) := and_mask u 4 hu (by omega)
  have b4 : -9223372036854775808 ≤ bitZ .and .u32 (u : Int) (((16 : Nat) : Int) - 1) ∧ bitZ .and .u32 (u : Int) (((16 : Nat) : Int) - 1) ≤ 9223372036854775807 := by rw [e4]; omega
  have e5 : bitZ .and .u32 (u : Int) (((32 : Nat) : Int) - 1) = ((u % 32 : Nat) : Int) := and_mask u 5 hu (by omega)
  have b5 : -9223372036854775808 ≤ bitZ .and .u32 (u : Int) (((32 : Nat) : Int) - 1) ∧ bitZ .and .u32 (u : Int) (((32 : Nat) : Int) - 1) ≤ 9223372036854775807 := by rw [e5]; omega
  have e6 : bitZ .and .u32 (u : Int) (((64 : Nat) : Int) - 1) = ((u % 64 : Nat) : Int) := and_mask u 6 hu (by omega)
  have b6 : -9223372036854775808 ≤ bitZ .and .u32 (u : Int) (((64 : Nat) : Int) - 1) ∧ bitZ .and .u32 (u : Int) (((64 : Nat) : Int) - 1) ≤ 9223372036854775807 := by rw [e6]; omega
  refine spec_of_ev Tryz.func133 ic133_eq (rs := [.t 4]) (by kernel_rfl) (by kernel_rfl) (by kernel_rfl) fun G hP hA => ?_
  unfold evF ic133
  rcases hn with rfl | rfl | rfl | rfl | rfl | rfl | rfl
  all_goals
    conv => whnf
    (repeat' (first | (refine And.intro (by (first | omega | assumption | (simp only [nadd_eq]; omega) | (simp [nadd_eq]; omega))) ?_; conv => whnf) | (refine arI64 (by omega) (by omega) ?_; conv => whnf) | (refine arU32 (by omega) (by omega) ?_; conv => whnf) | (refine arU8 (by omega) (by omega) ?_; conv => whnf)))
  · (refine fin_auto ?_; conv => whnf); refine ⟨rfl, rfl, rfl, int_fin ?_, has_a, rfl⟩
    exact e0
  · (refine fin_auto ?_; conv => whnf); refine ⟨rfl, rfl, rfl, int_fin ?_, has_a, rfl⟩
    exact e1
  · (refine fin_auto ?_; conv => whnf); refine ⟨rfl, rfl, rfl, int_fin ?_, has_a, rfl⟩
    exact e2
  · (refine fin_auto ?_; conv => whnf); refine ⟨rfl, rfl, rfl, int_fin ?_, has_a, rfl⟩
    exact e3
  · (refine fin_auto ?_; conv => whnf); refine ⟨rfl, rfl, rfl, int_fin ?_, has_a, rfl⟩
    exact e4
  · (refine fin_auto ?_; conv => whnf); refine ⟨rfl, rfl, rfl, int_fin ?_, has_a, rfl⟩
    exact e5
  · (refine fin_auto ?_; conv => whnf); refine ⟨rfl, rfl, rfl, int_fin ?_, has_a, rfl⟩
    exact e6
/-- A slot lock's contexts. -/
def slotE (nu stp : Nat → Int) : Nat → List Value := fun i => [.int .u32 (nu i), .int .i64 (stp i)]
/-- Anderson's lock that uses no port yet; .. with its port. -/
def slotsH0 (m : Nat) (tail : Int) (n : Nat) (st dl nu stp : Nat → Int) : Heap := [(0, some (.st [.p 1 0 0 0, .v (.pointer none), .v (.int .i64 tail), .v (.int .i64 n), .s 2 2 0 m 0])), (1, some (seatP m st dl false false)), (2, some (.ar 2 m (slotE nu stp)))]
def slotsP0 (m : Nat) (tail : Int) (n : Nat) (st dl nu stp : Nat → Int) : Ent := .ob [] (PackR (slotsH0 m tail n st dl nu stp) 3)
def slotsH1 (m : Nat) (tail : Int) (n : Nat) (st dl nu stp : Nat → Int) : Heap := [(0, some (.st [.p 2 0 0 0, .p 1 0 0 0, .v (.int .i64 tail), .v (.int .i64 n), .s 3 2 0 m 0])), (2, some (seatP m st dl false false)), (3, some (.ar 2 m (slotE nu stp)))]
def slotV (u n : Nat) (i : Nat) : Int := if i = u % n then 1 else 0
def slotsHs (hs : Nat → Int) (M : Nat) (h : Nat → Int) (m n : Nat) : Nat → Int := snocF (tailF hs M (h 0)) (M + 1) (fun i => h (i % m)) n
def slotsWs (ws : Nat → Int) (M : Nat) (u n : Nat) : Nat → Int := snocF (tailF ws M u) (M + 1) (slotV u n) n
theorem badSlots_spec (v : Int) : FSpec Tryz.prog 131 [] 0 [.l (.v (.int .i64 v))] fun x h n => x = sBool (badH v) ∧ n = 0 ∧ h = [] := by
  refine spec_of_ev Tryz.func131 ic131_eq (rs := [.t 2]) (by kernel_rfl) (by kernel_rfl) (by kernel_rfl) fun G hP hA => ?_
  unfold evF ic131
  conv => whnf
  (repeat' (first | (refine join_plain ?_; conv => whnf) | (refine dsplit (fun _ => ?_) (fun _ => ?_) <;> conv => whnf)))
  all_goals (((refine fin_auto ?_; conv => whnf); refine ⟨rfl, rfl, rfl, bool_fin ?_, has_a, rfl⟩); unfold badH; rw [Bool.eq_iff_iff]; simp; omega)
theorem slotsNew_bad (th : Int) (M : Nat) (hs ws h : Nat → Int) (m : Nat) (n u : Int) (hm : m ≤ 80) (hb : m < 1 ∨ 64 < m ∨ anyZ badH h m = true) :
    FSpec Tryz.prog 106 [(0, some (planP th M hs ws)), (1, some (.ro 1 m (numE h)))] 2 [.l (.p 0 0 0 0), .l (.s 1 1 0 m 0), .l (.v (.int .i64 n)), .l (.v (.int .u32 u))] fun x h' k =>
      x = .t [.l (.v (.pointer none)), .l (.v (.int .i64 1))] ∧ k = 2 ∧ h' = [(0, some (planP th M hs ws))] := by
  refine spec_of_ev Tryz.func106 ic106_eq (rs := [.t 8, .t 9]) (by kernel_rfl) (by kernel_rfl) (by kernel_rfl) fun G hP hA => ?_
  unfold evF ic106
  by_cases h1 : m < 1 ∨ 64 < m
  · have hse := seatNew_bad (m : Int) false false (by omega)
    conv => whnf
    (refine call_auto hP (hse) ?_; conv => whnf); (refine ⟨⟨rfl, rfl, rfl, has_a, rfl, rfl⟩, ?_⟩; conv => whnf)
    (refine fin_auto ?_; conv => whnf); exact ⟨rfl, rfl, rfl, rfl, has_a, rfl⟩
  · have hse := seatNew_ok m false false (by omega)
    have hcf := containsf_spec 131 badH badSlots_spec h m (by omega)
    rw [show anyZ badH h m = true from by rcases hb with hb | hb | hb <;> first | exact hb | omega] at hcf
    conv => whnf
    (refine call_auto hP (hse) ?_; conv => whnf); (refine ⟨⟨rfl, rfl, rfl, has_a, rfl, rfl⟩, ?_⟩; conv => whnf)
    (refine call_auto hP (hcf) ?_; conv => whnf); (refine ⟨⟨rfl, rfl, rfl, has_a, rfl, rfl⟩, ?_⟩; conv => whnf)
    (refine fin_auto ?_; conv => whnf); exact ⟨rfl, rfl, rfl, rfl, has_a, rfl⟩
theorem slotsNew_none (th : Int) (M : Nat) (hs ws h : Nat → Int) (m : Nat) (n u : Int) (hm : 1 ≤ m ∧ m ≤ 64) (hb : anyZ badH h m = false) (hn : n < m ∨ anyZ (fun x => decide (n = x)) sizN 7 = false) :
    FSpec Tryz.prog 106 [(0, some (planP th M hs ws)), (1, some (.ro 1 m (numE h)))] 2 [.l (.p 0 0 0 0), .l (.s 1 1 0 m 0), .l (.v (.int .i64 n)), .l (.v (.int .u32 u))] fun x h' k =>
      x = .t [.l (.v (.pointer none)), .l (.v (.int .i64 7))] ∧ k = 2 ∧ h' = [(0, some (planP th M hs ws))] := by
  have hse := seatNew_ok m false false (by omega)
  have hcf := containsf_spec 131 badH badSlots_spec h m (by omega)
  rw [hb] at hcf
  have hsi := sizes_spec
  have hct := contains_spec n sizN 7 (by omega)
  refine spec_of_ev Tryz.func106 ic106_eq (rs := [.t 8, .t 9]) (by kernel_rfl) (by kernel_rfl) (by kernel_rfl) fun G hP hA => ?_
  unfold evF ic106
  conv => whnf
  (refine call_auto hP (hse) ?_; conv => whnf); (refine ⟨⟨rfl, rfl, rfl, has_a, rfl, rfl⟩, ?_⟩; conv => whnf)
  (refine call_auto hP (hcf) ?_; conv => whnf); (refine ⟨⟨rfl, rfl, rfl, has_a, rfl, rfl⟩, ?_⟩; conv => whnf)
  refine dsplit (fun h1 => ?_) (fun h1 => ?_)
  · conv => whnf
    (refine fin_auto ?_; conv => whnf); exact ⟨rfl, rfl, rfl, rfl, has_a, rfl⟩
  · rw [show anyZ (fun x => decide (n = x)) sizN 7 = false from by rcases hn with hn | hn <;> first | exact hn | exact absurd hn h1] at hct
    conv => whnf
    (refine call_auto hP (hsi) ?_; conv => whnf); (refine ⟨⟨rfl, rfl, rfl, has_a, rfl, rfl⟩, ?_⟩; conv => whnf)
    (refine call_auto hP (hct) ?_; conv => whnf); (refine ⟨⟨rfl, rfl, rfl, has_a, rfl, rfl⟩, ?_⟩; conv => whnf)
    (refine fin_auto ?_; conv => whnf); exact ⟨rfl, rfl, rfl, rfl, has_a, rfl⟩
theorem rem_nat {a b : Nat} {K : Int → Prop} (hb : b ≠ 0) (hk : K ((a % b : Nat) : Int)) : RemP (a : Int) (b : Int) K := ⟨⟨by omega, by rw [show (a : Int).tmod (b : Int) = ((a % b : Nat) : Int) from rfl]; exact hk⟩⟩
set_option maxRecDepth 4000 in
set_option maxHeartbeats 1000000 in
theorem slotsNew_ok (th : Int) (M : Nat) (hs ws h : Nat → Int) (m n u : Nat) (hM : M ≤ 10000) (hm : 1 ≤ m ∧ m ≤ 64) (hb : anyZ badH h m = false) (hu : u < 4294967296) (hn : isSize n) (hmn : m ≤ n) :
    FSpec Tryz.prog 106 [(0, some (planP th M hs ws)), (1, some (.ro 1 m (numE h)))] 2 [.l (.p 0 0 0 0), .l (.s 1 1 0 m 0), .l (.v (.int .i64 n)), .l (.v (.int .u32 u))] fun x h' k =>
      x = .t [.l (.p 2 0 0 0), .l (.v (.int .i64 0))] ∧ k = 3 ∧ h' = [(0, some (planP th (M + 1 + n) (slotsHs hs M h m n) (slotsWs ws M u n))), (2, some (slotsP0 m M n (fun _ => 0) (fun _ => -1) (fun _ => 0) fun _ => 0))] := by
  have hn64 : n ≤ 64 := by unfold isSize at hn; omega
  have hse := seatNew_ok m false false (by omega)
  have hcf := containsf_spec 131 badH badSlots_spec h m (by omega)
  rw [hb] at hcf
  have hsi := sizes_spec
  have hct := contains_spec (n : Int) sizN 7 (by omega)
  rw [show anyZ (fun x => decide ((n : Int) = x)) sizN 7 = true from by rcases hn with rfl | rfl | rfl | rfl | rfl | rfl | rfl <;> simp [anyZ, sizN]] at hct
  have hw1 := word_spec th M hs ws (h 0) u (by omega)
  have hsl := slot_spec u n hu hn
  refine spec_of_ev Tryz.func106 ic106_eq (rs := [.t 8, .t 9]) (by kernel_rfl) (by kernel_rfl) (by kernel_rfl) fun G hP hA => ?_
  unfold evF ic106
  conv => whnf
  (refine call_auto hP (hse) ?_; conv => whnf); (refine ⟨⟨rfl, rfl, rfl, has_a, rfl, rfl⟩, ?_⟩; conv => whnf)
  (refine call_auto hP (hcf) ?_; conv => whnf); (refine ⟨⟨rfl, rfl, rfl, has_a, rfl, rfl⟩, ?_⟩; conv => whnf)
  refine dsplit (fun h1 => absurd h1 (by omega)) (fun _ => ?_)
  conv => whnf
  (refine call_auto hP (hsi) ?_; conv => whnf); (refine ⟨⟨rfl, rfl, rfl, has_a, rfl, rfl⟩, ?_⟩; conv => whnf)
  (refine call_auto hP (hct) ?_; conv => whnf); (refine ⟨⟨rfl, rfl, rfl, has_a, rfl, rfl⟩, ?_⟩; conv => whnf)
  (repeat' (first | (refine And.intro (by (first | omega | assumption | (simp only [nadd_eq]; omega) | (simp [nadd_eq]; omega))) ?_; conv => whnf) | (refine arI64 (by omega) (by omega) ?_; conv => whnf) | (refine arU32 (by omega) (by omega) ?_; conv => whnf) | (refine arU8 (by omega) (by omega) ?_; conv => whnf)))
  (refine call_auto hP (hw1) ?_; conv => whnf); (refine ⟨⟨rfl, rfl, rfl, has_a, rfl, rfl⟩, ?_⟩; conv => whnf)
  (repeat' (first | (refine And.intro (by (first | omega | assumption | (simp only [nadd_eq]; omega) | (simp [nadd_eq]; omega))) ?_; conv => whnf) | (refine arI64 (by omega) (by omega) ?_; conv => whnf) | (refine arU32 (by omega) (by omega) ?_; conv => whnf) | (refine arU8 (by omega) (by omega) ?_; conv => whnf)))
  refine loop_auto (α := Nat) (ds := []) (N := 6) (fun i => [(54, sInt .i64 (i : Int))]) []
    (fun i => [(0, some (planP th (M + 1 + i) (slotsHs hs M h m i) (snocF (tailF ws M u) (M + 1) (slotV u n) i)))])
    (fun i => i ≤ n) (fun i => n - i) 0 (Nat.zero_le _) ?_ fun i hi => ?_
  · (conv => whnf); (refine imp_auto hA ?_; conv => whnf); exact ⟨rfl, rfl, rfl, regs_a, has_a, rfl⟩
  · have hmod : i % m < m := Nat.mod_lt _ (by omega)
    have hni : nadd 0 ((i % m : Nat) : Int).toNat = i % m := by rw [nadd_eq, Int.toNat_natCast, Nat.add_zero]
    conv => whnf
    refine dsplit (fun h1 => ?_) (fun h1 => ?_)
    · replace h1 : (i : Int) < (n : Int) := h1
      conv => whnf
      (refine join_plain ?_; conv => whnf)
      (refine call_auto hP (hsl) ?_; conv => whnf); (refine ⟨⟨rfl, rfl, rfl, has_a, rfl, rfl⟩, ?_⟩; conv => whnf)
      refine dsplit (fun h2 => ?_) (fun h2 => ?_)
      · replace h2 : (i : Int) = ((u % n : Nat) : Int) := h2
        have hwi := word_spec th (M + 1 + i) (slotsHs hs M h m i) (snocF (tailF ws M u) (M + 1) (slotV u n) i) (h (i % m)) 1 (by omega)
        rw [show tailF (snocF (tailF ws M u) (M + 1) (slotV u n) i) (M + 1 + i) 1 = snocF (tailF ws M u) (M + 1) (slotV u n) (i + 1) from by simp only [snocF, slotV, if_pos (Int.ofNat_inj.1 h2)]] at hwi
        conv => whnf
        refine rem_nat (by omega) ?_
        conv => whnf
        refine And.intro (by omega) ?_
        conv => whnf
        refine And.intro (by omega) ?_
        conv => whnf
        rw [hni]
        conv => whnf
        (refine call_auto hP (hwi) ?_; conv => whnf); (refine ⟨⟨rfl, rfl, rfl, has_a, rfl, rfl⟩, ?_⟩; conv => whnf)
        (repeat' (first | (refine And.intro (by (first | omega | assumption | (simp only [nadd_eq]; omega) | (simp [nadd_eq]; omega))) ?_; conv => whnf) | (refine arI64 (by omega) (by omega) ?_; conv => whnf) | (refine arU32 (by omega) (by omega) ?_; conv => whnf) | (refine arU8 (by omega) (by omega) ?_; conv => whnf)))
        refine ⟨i + 1, by omega, by omega, ?_⟩
        (conv => whnf); (refine imp_auto hA ?_; conv => whnf); exact ⟨rfl, rfl, rfl, regs_a, has_a, rfl⟩
      · replace h2 : ¬ (i : Int) = ((u % n : Nat) : Int) := h2
        have hwi := word_spec th (M + 1 + i) (slotsHs hs M h m i) (snocF (tailF ws M u) (M + 1) (slotV u n) i) (h (i % m)) 0 (by omega)
        rw [show tailF (snocF (tailF ws M u) (M + 1) (slotV u n) i) (M + 1 + i) 0 = snocF (tailF ws M u) (M + 1) (slotV u n) (i + 1) from by simp only [snocF, slotV, if_neg (fun hh => h2 (congrArg Int.ofNat hh))]] at hwi
        conv => whnf
        refine rem_nat (by omega) ?_
        conv => whnf
        refine And.intro (by omega) ?_
        conv => whnf
        refine And.intro (by omega) ?_
        conv => whnf
        rw [hni]
        conv => whnf
        (refine call_auto hP (hwi) ?_; conv => whnf); (refine ⟨⟨rfl, rfl, rfl, has_a, rfl, rfl⟩, ?_⟩; conv => whnf)
        (repeat' (first | (refine And.intro (by (first | omega | assumption | (simp only [nadd_eq]; omega) | (simp [nadd_eq]; omega))) ?_; conv => whnf) | (refine arI64 (by omega) (by omega) ?_; conv => whnf) | (refine arU32 (by omega) (by omega) ?_; conv => whnf) | (refine arU8 (by omega) (by omega) ?_; conv => whnf)))
        refine ⟨i + 1, by omega, by omega, ?_⟩
        (conv => whnf); (refine imp_auto hA ?_; conv => whnf); exact ⟨rfl, rfl, rfl, regs_a, has_a, rfl⟩
    · replace h1 : ¬ (i : Int) < (n : Int) := h1
      obtain rfl : i = n := by omega
      conv => whnf
      (refine fin_close (H := (slotsH0 m M i (fun _ => 0) (fun _ => -1) (fun _ => 0) fun _ => 0)) (np := 3) 5 0 (Nat.le_of_ble_eq_true rfl) ?_; conv => whnf); (refine ⟨⟨rfl, by omega, rfl, rfl, has_a, rfl⟩, ?_⟩)
      (refine fin_auto ?_; conv => whnf); exact ⟨rfl, rfl, rfl, rfl, has_a, rfl⟩
end Go.Proofs.YtlkfolopbehikaaGreat
set_option linter.unusedSimpArgs false
set_option linter.unusedVariables false
namespace Go.Proofs.YtlkfolopbehikaaGreat
open Go Go.Sx

def rowE (E j : Nat) : Nat → List Value := fun q => [.int .i64 ((j : Int) * E + q + 1)]
def rowsV (a : Nat) (val : Nat → Value) : Nat → Value := fun j => if j < a then val j else .slice none 0 0
def outN (T E : Nat) : Nat := (1 + (T : Int) * (E : Int)).toNat
/-- A pool of T rows of E nodes each: row T - 1 is told by itself. -/
def poolH (T E : Nat) (val : Nat → Value) : Heap := [(0, some (.st [.s 1 1 0 T 0, .s 2 1 0 (outN T E) 0])), (1, some (.hl T (rowsV (T - 1) val) (T - 1) (.s 3 1 0 E 0))), (2, some (.ar 1 (outN T E) (boolE fun _ => false))), (3, some (.ar 1 E (rowE E (T - 1)))), (4, some (.ob [] (RowsR E (rowE E) (T - 1) val)))]
def PoolR (T E : Nat) : List Go.Sx.Loc → Go.Sx.Loc → List Nat → World → Prop := fun ls l F w => ∃ val, PackR (poolH T E val) 5 ls l F w
def poolP (T E : Nat) : Ent := .ob [] (PoolR T E)
theorem poolR_stable (T E : Nat) (ls : List Go.Sx.Loc) : Stable (PoolR T E ls) := fun l F w w' ⟨val, h⟩ hw => ⟨val, packR_stable _ _ _ l F w w' h hw⟩
theorem poolNew_bad (T E : Int) (h : T < 1 ∨ 64 < T ∨ E < 1 ∨ 8 < E) : FSpec Tryz.prog 138 [] 0 [.l (.v (.int .i64 T)), .l (.v (.int .i64 E))] fun x h k => x = .t [.l (.v (.pointer none)), .l (.v (.int .i64 1))] ∧ k = 0 ∧ h = [] := by
  refine spec_of_ev Tryz.func138 ic138_eq (rs := [.t 4, .t 5]) (by kernel_rfl) (by kernel_rfl) (by kernel_rfl) fun G hP hA => ?_
  unfold evF ic138
  conv => whnf
  refine dsplit (fun h1 => ?_) (fun h1 => ?_)
  · conv => whnf
    (refine fin_auto ?_; conv => whnf); exact ⟨rfl, rfl, rfl, rfl, has_a, rfl⟩
  conv => whnf
  refine dsplit (fun h2 => ?_) (fun h2 => ?_)
  · conv => whnf
    (refine fin_auto ?_; conv => whnf); exact ⟨rfl, rfl, rfl, rfl, has_a, rfl⟩
  conv => whnf
  refine dsplit (fun h3 => ?_) (fun h3 => ?_)
  · conv => whnf
    (refine fin_auto ?_; conv => whnf); exact ⟨rfl, rfl, rfl, rfl, has_a, rfl⟩
  conv => whnf
  refine dsplit (fun h4 => ?_) (fun h4 => absurd h4 (by omega))
  conv => whnf
  (refine fin_auto ?_; conv => whnf); exact ⟨rfl, rfl, rfl, rfl, has_a, rfl⟩
theorem quo_to {i E a : Nat} {K : Int → Prop} (hE : E ≠ 0) (hi : i / E = a) (hs : a < 1000000) (hk : K (a : Int)) : QuoP .i64 (i : Int) (E : Int) K := by
  refine ⟨⟨by omega, ?_⟩⟩
  rw [show (i : Int).tdiv (E : Int) = ((i / E : Nat) : Int) from rfl, hi, wrap_in (k := .i64) (show (-9223372036854775808 : Int) ≤ _ by omega) (show _ ≤ (9223372036854775807 : Int) by omega)]
  exact hk
theorem row_is {E a b i : Nat} (hE : 1 ≤ E) (hb : b < E) (hi : i = a * E + b) : i / E = a := by
  subst hi
  rw [Nat.mul_comm, Nat.mul_add_div (by omega), Nat.div_eq_of_lt hb, Nat.add_zero]
theorem last_row {E a b i T : Nat} (hi : i = a * E + b) (ha : a + 1 = T) (h : i + 1 < T * E) : b + 1 < E := by
  subst ha hi
  rw [Nat.add_mul] at h
  omega
set_option maxRecDepth 4000 in
set_option maxHeartbeats 4000000 in
theorem poolNew_ok (T E : Nat) (hT : 1 ≤ T ∧ T ≤ 64) (hE : 1 ≤ E ∧ E ≤ 8) : FSpec Tryz.prog 138 [] 0 [.l (.v (.int .i64 T)), .l (.v (.int .i64 E))] fun x h k =>
    x = .t [.l (.p 0 0 0 0), .l (.v (.int .i64 0))] ∧ k = 1 ∧ h = [(0, some (poolP T E))] := by
  have hTE : (T : Int) * (E : Int) = ((T * E : Nat) : Int) := (Int.natCast_mul T E).symm
  have hTE2 : T * E ≤ 64 * 8 := Nat.mul_le_mul hT.2 hE.2
  have hTE3 : 0 ≤ (T : Int) * (E : Int) ∧ (T : Int) * (E : Int) ≤ 512 := by rw [hTE]; omega
  refine spec_of_ev Tryz.func138 ic138_eq (rs := [.t 4, .t 5]) (by kernel_rfl) (by kernel_rfl) (by kernel_rfl) fun G hP hA => ?_
  unfold evF ic138
  conv => whnf
  refine dsplit (fun h => absurd h (by omega)) (fun _ => ?_)
  conv => whnf
  refine dsplit (fun h => absurd h (by omega)) (fun _ => ?_)
  conv => whnf
  refine dsplit (fun h => absurd h (by omega)) (fun _ => ?_)
  conv => whnf
  refine dsplit (fun h => absurd h (by omega)) (fun _ => ?_)
  conv => whnf
  (refine drawP_lazy (by rw [hP]; exact follows) 60 (by kernel_rfl) ?_; conv => whnf)
  repeat' (first | (refine And.intro (by first | omega | (simp [nadd_eq]; omega)) ?_; conv => whnf) | (refine arI64 (by omega) (by omega) ?_; conv => whnf) | (refine And.intro ?_ ?_ <;> (conv => whnf)))
  all_goals (repeat' (first | (refine And.intro (by (first | omega | assumption | (simp only [nadd_eq]; omega) | (simp [nadd_eq]; omega))) ?_; conv => whnf) | (refine arI64 (by omega) (by omega) ?_; conv => whnf) | (refine arU32 (by omega) (by omega) ?_; conv => whnf) | (refine arU8 (by omega) (by omega) ?_; conv => whnf)))
  all_goals
    refine loop_ex (α := Nat × Nat × Nat × (Nat → Value)) (ds := [22, 23, 24, 25, 26, 27, 28, 29, 30]) (N := 5) (fun x => [(34, sInt .i64 (x.1 : Int)), (6, .o (.l (.p 2 0 0 0)))]) []
      (fun x => [(2, some (.st [.s 0 1 0 T 0, .s 1 1 0 (outN T E) 0])), (0, some (.hl T (rowsV x.2.1 x.2.2.2) x.2.1 (.s 3 1 0 x.2.2.1 0))), (1, some (.ar 1 (outN T E) (boolE fun _ => false))), (3, some (.ar 1 x.2.2.1 (rowE E x.2.1))), (4, some (.ob [] (RowsR E (rowE E) x.2.1 x.2.2.2)))])
      (fun x => (x.1 = x.2.1 * E + x.2.2.1 ∧ x.2.1 < T) ∧ (x.2.2.1 ≤ E ∧ x.1 ≤ T * E) ∧ (x.1 < T * E → x.2.2.1 < E)) (fun x => T * E - x.1) (0, 0, 0, fun _ => .bool false) ⟨⟨by simp, show 0 < T by omega⟩, ⟨show 0 ≤ E by omega, show 0 ≤ T * E by omega⟩, fun _ => show 0 < E by omega⟩ ?_ ?_
    · conv => whnf
      first
        | (refine Imp.trans (imp_ghost ((GSpec.tohl 0 0 (fun _ => .slice none 0 0) (.slice none 0 0) (m := T) (f := fun _ => [.slice none 0 0]) rfl (by omega) (fun j hj => by split <;> rfl)).trans ((GSpec.nilh 0 1 (rowE E 0) rfl).trans (GSpec.nothing (RowsR E (rowE E) 0 fun _ => .bool false) (rowsR_stable _ _ _ _ _) (rowsR_none _ _ _))))) ?_; refine imp_intro hA [0, 1, 2, 3, 4] rfl rfl rfl regs_a ?_ rfl)
        | (refine Imp.trans (imp_ghost ((GSpec.tohl 1 0 (fun _ => .slice none 0 0) (.slice none 0 0) (m := T) (f := fun _ => [.slice none 0 0]) rfl (by omega) (fun j hj => by split <;> rfl)).trans ((GSpec.nilh 1 1 (rowE E 0) rfl).trans (GSpec.nothing (RowsR E (rowE E) 0 fun _ => .bool false) (rowsR_stable _ _ _ _ _) (rowsR_none _ _ _))))) ?_; refine imp_intro hA [1, 0, 2, 3, 4] rfl rfl rfl regs_a ?_ rfl)
      all_goals exact ⟨rfl, ⟨rfl, rfl, rfl, fun j hj => by simp [rowsV]⟩, ⟨rfl, rfl, fun _ _ => rfl⟩, ⟨rfl, rfl, fun _ _ => rfl⟩, ⟨rfl, .inl rfl⟩, trivial⟩
    · intro x hx
      obtain ⟨i, a, b, val⟩ := x
      obtain ⟨⟨hi, ha⟩, ⟨hb, hiT⟩, hlt⟩ := hx
      replace hi : i = a * E + b := hi
      replace ha : a < T := ha
      replace hb : b ≤ E := hb
      replace hiT : i ≤ T * E := hiT
      replace hlt : i < T * E → b < E := hlt
      conv => whnf
      refine dsplit (fun h1 => ?_) (fun h1 => ?_)
      · replace h1 : (i : Int) < (T : Int) * (E : Int) := h1
        have h2 : i < T * E := by rw [hTE] at h1; exact Int.ofNat_lt.1 h1
        have hbE := hlt h2
        have hq := row_is hE.1 hbE hi
        have hna : nadd 0 ((a : Nat) : Int).toNat = a := by simp [nadd_eq]
        have hE0 : E ≠ 0 := by omega
        have ha6 : a < 1000000 := by omega
        have hi6 : i ≤ 512 := by omega
        conv => whnf
        (refine drawP_lazy (by rw [hP]; exact follows) 60 (by kernel_rfl) ?_; conv => whnf)
        repeat' (first | (refine quo_to hE0 hq ha6 ?_; conv => whnf) | (refine And.intro (by first | omega | (simp [nadd_eq]; omega)) ?_; conv => whnf) | (refine arI64 (by omega) (by omega) ?_; conv => whnf) | (refine And.intro ?_ ?_ <;> (conv => whnf)))
        all_goals
          intro act aw hs
          by_cases hb1 : b + 1 < E ∨ a + 1 = T
          · refine ⟨(i + 1, a, b + 1, val), ⟨⟨show i + 1 = a * E + (b + 1) by omega, ha⟩, ⟨hbE, h2⟩, fun hlt2 => ?_⟩, show T * E - (i + 1) < T * E - i by omega, ?_⟩
            · rcases hb1 with hb1 | hb1
              · exact hb1
              · exact last_row hi hb1 hlt2
            · conv => whnf
              refine satP_imp hs ?_
              refine imp_intro hA [0, 1, 2, 6, 4] rfl rfl rfl regs_a ?_ rfl
              exact ⟨rfl, ⟨rfl, rfl, rfl, fun _ _ => rfl⟩, ⟨rfl, rfl, fun _ _ => rfl⟩, ⟨rfl, rfl, fun j hj => snoc_rows (f := rowE E a) (i := b) (by show [Value.int .i64 ((i : Int) + 1)] = [Value.int .i64 ((a : Int) * E + b + 1)]; rw [hi]; simp) j hj⟩, ⟨rfl, .inl rfl⟩, trivial⟩
          · have hbE2 : b + 1 = E := by omega
            have ha1 : a + 1 < T := by omega
            subst hbE2
            obtain ⟨v, hs2⟩ := rows_take (k0 := 0) (k := 6) (kz := 4) (E := b + 1) (a := a) (row := rowE (b + 1)) hs rfl rfl rfl (by decide) (by decide) (by decide) (fun j hj => snoc_rows (f := rowE (b + 1) a) (i := b) (by show [Value.int .i64 ((i : Int) + 1)] = [Value.int .i64 ((a : Int) * ((b + 1 : Nat) : Int) + b + 1)]; rw [hi]; simp) j hj)
            refine ⟨(i + 1, a + 1, 0, fun j => if j = a then v else val j), ⟨⟨show i + 1 = (a + 1) * (b + 1) + 0 by rw [Nat.add_mul]; omega, ha1⟩, ⟨Nat.zero_le _, h2⟩, fun _ => Nat.succ_pos b⟩, show T * (b + 1) - (i + 1) < T * (b + 1) - i by omega, ?_⟩
            conv => whnf
            refine satP_imp hs2 ?_
            refine Imp.trans (imp_ghost ((GSpec.hole 0 (a + 1) (rowsV (a + 1) fun j => if j = a then v else val j) (.slice none 0 0) rfl ha1 (fun j hj => ?_)).trans (GSpec.nilh 0 1 (rowE (b + 1) (a + 1)) rfl))) ?_
            · simp only [rowsV]
              by_cases e1 : j = a
              · subst e1; rw [if_pos rfl, if_neg (by omega), if_pos (by omega), if_pos rfl]
              · by_cases e2 : j = a + 1
                · subst e2; rw [if_neg (by omega), if_pos rfl, if_neg (by omega)]
                · by_cases e3 : j < a
                  · simp only [if_neg e1, if_neg e2, if_pos e3, if_pos (show j < a + 1 by omega)]
                  · simp only [if_neg e1, if_neg e2, if_neg e3, if_neg (show ¬ j < a + 1 by omega)]
            · refine imp_intro hA [0, 1, 2, 7, 4] rfl rfl rfl regs_a ?_ rfl
              exact ⟨rfl, ⟨rfl, rfl, rfl, fun _ _ => rfl⟩, ⟨rfl, rfl, fun _ _ => rfl⟩, ⟨rfl, rfl, fun _ _ => rfl⟩, ⟨rfl, .inl rfl⟩, trivial⟩
      · replace h1 : ¬ (i : Int) < (T : Int) * (E : Int) := h1
        have h2 : i = T * E := by rw [hTE] at h1; omega
        have h3 : (a + 1) * E ≤ T * E := Nat.mul_le_mul_right _ ha
        rw [Nat.add_mul] at h3
        obtain rfl : b = E := by omega
        have h4 : (a + 1) * b = T * b := by rw [Nat.add_mul]; omega
        obtain rfl : a + 1 = T := Nat.eq_of_mul_eq_mul_right (by omega) h4
        conv => whnf
        refine finP_ghost (close_at [2, 0, 1, 3, 4] (H := poolH (a + 1) b val) (np := 5) 0 rfl (by decide) rfl rfl ?_ rfl) (Nat.zero_le _) ?_
        · exact ⟨rfl, ⟨rfl, rfl, rfl, fun _ _ => rfl⟩, ⟨rfl, rfl, fun _ _ => rfl⟩, ⟨rfl, rfl, fun _ _ => rfl⟩, ⟨rfl, .inl rfl⟩, trivial⟩
        · (refine fin_auto ?_; conv => whnf); refine ⟨rfl, rfl, rfl, ?_, ?_, rfl⟩
          · rfl
          · exact ⟨⟨rfl, .inr ⟨fun ls => poolR_stable _ _ _, fun ls l F w hh => ⟨val, hh⟩⟩⟩, trivial⟩
end Go.Proofs.YtlkfolopbehikaaGreat
set_option linter.unusedSimpArgs false
set_option linter.unusedVariables false
namespace Go.Proofs.YtlkfolopbehikaaGreat
open Go Go.Sx

theorem badAbort_spec (v : Int) : FSpec Tryz.prog 137 [] 0 [.l (.v (.int .i64 v))] fun x h n => x = sBool (badH v) ∧ n = 0 ∧ h = [] := by
  refine spec_of_ev Tryz.func137 ic137_eq (rs := [.t 2]) (by kernel_rfl) (by kernel_rfl) (by kernel_rfl) fun G hP hA => ?_
  unfold evF ic137
  conv => whnf
  (repeat' (first | (refine join_plain ?_; conv => whnf) | (refine dsplit (fun _ => ?_) (fun _ => ?_) <;> conv => whnf)))
  all_goals (((refine fin_auto ?_; conv => whnf); refine ⟨rfl, rfl, rfl, bool_fin ?_, has_a, rfl⟩); unfold badH; rw [Bool.eq_iff_iff]; simp; omega)
def abortE (stp tr no ot : Nat → Int) : Nat → List Value := fun i => [.int .i64 (stp i), .int .i64 (tr i), .int .i64 (no i), .int .i64 (ot i)]
/-- A queue lock that can be given up, that uses no port yet; .. with its port. -/
def abortH0 (m E : Nat) (tail : Int) (st dl stp tr no ot : Nat → Int) : Heap := [(0, some (.st [.p 1 0 0 0, .v (.pointer none), .p 2 0 0 0, .v (.int .i64 tail), .s 3 4 0 m 0])), (1, some (seatP m st dl true false)), (2, some (poolP m E)), (3, some (.ar 4 m (abortE stp tr no ot)))]
def abortP0 (m E : Nat) (tail : Int) (st dl stp tr no ot : Nat → Int) : Ent := .ob [] (PackR (abortH0 m E tail st dl stp tr no ot) 4)
def abortH1 (m E : Nat) (tail : Int) (st dl stp tr no ot : Nat → Int) : Heap := [(0, some (.st [.p 2 0 0 0, .p 1 0 0 0, .p 3 0 0 0, .v (.int .i64 tail), .s 4 4 0 m 0])), (2, some (seatP m st dl true false)), (3, some (poolP m E)), (4, some (.ar 4 m (abortE stp tr no ot)))]
def abortHs (hs : Nat → Int) (M E : Nat) (h : Nat → Int) : Nat → Nat → Int := rowsF (3 * E) (tailF hs M (h 0)) (M + 1) h
def abortWs (ws : Nat → Int) (M E : Nat) : Nat → Nat → Int := rowsF (3 * E) (tailF ws M 0) (M + 1) fun _ => 0
theorem abortNew_bad (th : Int) (M : Nat) (hs ws h : Nat → Int) (m : Nat) (e : Int) (hm : m ≤ 80) (hb : m < 1 ∨ 64 < m ∨ anyZ badH h m = true) :
    FSpec Tryz.prog 109 [(0, some (planP th M hs ws)), (1, some (.ro 1 m (numE h)))] 2 [.l (.p 0 0 0 0), .l (.s 1 1 0 m 0), .l (.v (.int .i64 e))] fun x h' k =>
      x = .t [.l (.v (.pointer none)), .l (.v (.int .i64 1))] ∧ k = 2 ∧ h' = [(0, some (planP th M hs ws))] := by
  refine spec_of_ev Tryz.func109 ic109_eq (rs := [.t 6, .t 7]) (by kernel_rfl) (by kernel_rfl) (by kernel_rfl) fun G hP hA => ?_
  unfold evF ic109
  by_cases h1 : m < 1 ∨ 64 < m
  · have hse := seatNew_bad (m : Int) true false (by omega)
    conv => whnf
    (refine call_auto hP (hse) ?_; conv => whnf); (refine ⟨⟨rfl, rfl, rfl, has_a, rfl, rfl⟩, ?_⟩; conv => whnf)
    (refine fin_auto ?_; conv => whnf); exact ⟨rfl, rfl, rfl, rfl, has_a, rfl⟩
  · have hse := seatNew_ok m true false (by omega)
    have hcf := containsf_spec 137 badH badAbort_spec h m (by omega)
    rw [show anyZ badH h m = true from by rcases hb with hb | hb | hb <;> first | exact hb | omega] at hcf
    conv => whnf
    (refine call_auto hP (hse) ?_; conv => whnf); (refine ⟨⟨rfl, rfl, rfl, has_a, rfl, rfl⟩, ?_⟩; conv => whnf)
    (refine call_auto hP (hcf) ?_; conv => whnf); (refine ⟨⟨rfl, rfl, rfl, has_a, rfl, rfl⟩, ?_⟩; conv => whnf)
    (refine fin_auto ?_; conv => whnf); exact ⟨rfl, rfl, rfl, rfl, has_a, rfl⟩
theorem abortNew_none (th : Int) (M : Nat) (hs ws h : Nat → Int) (m : Nat) (e : Int) (hm : 1 ≤ m ∧ m ≤ 64) (hb : anyZ badH h m = false) (he : e < 1 ∨ 8 < e) :
    FSpec Tryz.prog 109 [(0, some (planP th M hs ws)), (1, some (.ro 1 m (numE h)))] 2 [.l (.p 0 0 0 0), .l (.s 1 1 0 m 0), .l (.v (.int .i64 e))] fun x h' k =>
      x = .t [.l (.v (.pointer none)), .l (.v (.int .i64 7))] ∧ k = 2 ∧ h' = [(0, some (planP th M hs ws))] := by
  have hse := seatNew_ok m true false (by omega)
  have hcf := containsf_spec 137 badH badAbort_spec h m (by omega)
  rw [hb] at hcf
  have hpo := poolNew_bad (m : Int) e (by omega)
  refine spec_of_ev Tryz.func109 ic109_eq (rs := [.t 6, .t 7]) (by kernel_rfl) (by kernel_rfl) (by kernel_rfl) fun G hP hA => ?_
  unfold evF ic109
  conv => whnf
  (refine call_auto hP (hse) ?_; conv => whnf); (refine ⟨⟨rfl, rfl, rfl, has_a, rfl, rfl⟩, ?_⟩; conv => whnf)
  (refine call_auto hP (hcf) ?_; conv => whnf); (refine ⟨⟨rfl, rfl, rfl, has_a, rfl, rfl⟩, ?_⟩; conv => whnf)
  (refine call_auto hP (hpo) ?_; conv => whnf); (refine ⟨⟨rfl, rfl, rfl, has_a, rfl, rfl⟩, ?_⟩; conv => whnf)
  (refine fin_auto ?_; conv => whnf); exact ⟨rfl, rfl, rfl, rfl, has_a, rfl⟩
set_option maxRecDepth 4000 in
set_option maxHeartbeats 1000000 in
theorem abortNew_ok (th : Int) (M : Nat) (hs ws h : Nat → Int) (m E : Nat) (hM : M ≤ 10000) (hm : 1 ≤ m ∧ m ≤ 64) (hE : 1 ≤ E ∧ E ≤ 8) (hb : anyZ badH h m = false) :
    FSpec Tryz.prog 109 [(0, some (planP th M hs ws)), (1, some (.ro 1 m (numE h)))] 2 [.l (.p 0 0 0 0), .l (.s 1 1 0 m 0), .l (.v (.int .i64 E))] fun x h' k =>
      x = .t [.l (.p 2 0 0 0), .l (.v (.int .i64 0))] ∧ k = 3 ∧ h' = [(0, some (planP th (M + 1 + 3 * E * m) (abortHs hs M E h m) (abortWs ws M E m))), (2, some (abortP0 m E M (fun _ => 0) (fun _ => -1) (fun _ => 0) (fun _ => 0) (fun _ => 0) fun _ => 0))] := by
  have hse := seatNew_ok m true false (by omega)
  have hcf := containsf_spec 137 badH badAbort_spec h m (by omega)
  rw [hb] at hcf
  have hpo := poolNew_ok m E hm hE
  have hw1 := word_spec th M hs ws (h 0) 0 (by omega)
  refine spec_of_ev Tryz.func109 ic109_eq (rs := [.t 6, .t 7]) (by kernel_rfl) (by kernel_rfl) (by kernel_rfl) fun G hP hA => ?_
  unfold evF ic109
  conv => whnf
  (refine call_auto hP (hse) ?_; conv => whnf); (refine ⟨⟨rfl, rfl, rfl, has_a, rfl, rfl⟩, ?_⟩; conv => whnf)
  (refine call_auto hP (hcf) ?_; conv => whnf); (refine ⟨⟨rfl, rfl, rfl, has_a, rfl, rfl⟩, ?_⟩; conv => whnf)
  (refine call_auto hP (hpo) ?_; conv => whnf); (refine ⟨⟨rfl, rfl, rfl, has_a, rfl, rfl⟩, ?_⟩; conv => whnf)
  (refine drawP_lazy (by rw [hP]; exact follows) 60 (by kernel_rfl) ?_; conv => whnf)
  repeat' (first | (refine And.intro (by first | omega | (simp [nadd_eq]; omega)) ?_; conv => whnf) | (refine And.intro ?_ ?_ <;> (conv => whnf)))
  all_goals (refine callD_auto hP (hw1) ?_; conv => whnf); (refine ⟨⟨rfl, rfl, rfl, has_a, rfl, rfl⟩, ?_⟩; conv => whnf)
  repeat' (first | (refine And.intro (by first | omega | (simp [nadd_eq]; omega)) ?_; conv => whnf) | (refine And.intro ?_ ?_ <;> (conv => whnf)))
  all_goals
    refine loop_auto (α := Nat) (ds := []) (N := 6) (fun i => [(49, sInt .i64 (i : Int))]) []
      (fun i => [(0, some (planP th (M + 1 + 3 * E * i) (abortHs hs M E h i) (abortWs ws M E i)))])
      (fun i => i ≤ m) (fun i => m - i) 0 (Nat.zero_le _) ?_ fun i hi => ?_
    · (conv => whnf); (refine imp_auto hA ?_; conv => whnf); exact ⟨rfl, rfl, rfl, regs_a, has_a, rfl⟩
    · have h64 : 3 * E * i ≤ 24 * 64 := Nat.mul_le_mul (by omega) (by omega)
      have hwi := row_spec th (M + 1 + 3 * E * i) (abortHs hs M E h i) (abortWs ws M E i) (3 * (E : Int)) (h i) 0 (3 * E) (by omega) (by omega)
      rw [show M + 1 + 3 * E * i + 3 * E = M + 1 + 3 * E * (i + 1) from by rw [Nat.mul_succ]; omega] at hwi
      have hni : nadd 0 ((i : Nat) : Int).toNat = i := by simp [nadd_eq]
      conv => whnf
      refine dsplit (fun h1 => ?_) (fun h1 => ?_)
      · replace h1 : (i : Int) < (m : Int) := h1
        conv => whnf
        (repeat' (first | (refine And.intro (by (first | omega | assumption | (simp only [nadd_eq]; omega) | (simp [nadd_eq]; omega))) ?_; conv => whnf) | (refine arI64 (by omega) (by omega) ?_; conv => whnf) | (refine arU32 (by omega) (by omega) ?_; conv => whnf) | (refine arU8 (by omega) (by omega) ?_; conv => whnf)))
        rw [hni]
        conv => whnf
        (repeat' (first | (refine And.intro (by (first | omega | assumption | (simp only [nadd_eq]; omega) | (simp [nadd_eq]; omega))) ?_; conv => whnf) | (refine arI64 (by omega) (by omega) ?_; conv => whnf) | (refine arU32 (by omega) (by omega) ?_; conv => whnf) | (refine arU8 (by omega) (by omega) ?_; conv => whnf)))
        (refine call_auto hP (hwi) ?_; conv => whnf); (refine ⟨⟨rfl, rfl, rfl, has_a, rfl, rfl⟩, ?_⟩; conv => whnf)
        (repeat' (first | (refine And.intro (by (first | omega | assumption | (simp only [nadd_eq]; omega) | (simp [nadd_eq]; omega))) ?_; conv => whnf) | (refine arI64 (by omega) (by omega) ?_; conv => whnf) | (refine arU32 (by omega) (by omega) ?_; conv => whnf) | (refine arU8 (by omega) (by omega) ?_; conv => whnf)))
        refine ⟨i + 1, by omega, by omega, ?_⟩
        (conv => whnf); (refine imp_auto hA ?_; conv => whnf); exact ⟨rfl, rfl, rfl, regs_a, has_a, rfl⟩
      · replace h1 : ¬ (i : Int) < (m : Int) := h1
        obtain rfl : i = m := by omega
        conv => whnf
        (refine fin_close (H := (abortH0 i E M (fun _ => 0) (fun _ => -1) (fun _ => 0) (fun _ => 0) (fun _ => 0) fun _ => 0)) (np := 4) 5 0 (Nat.le_of_ble_eq_true rfl) ?_; conv => whnf); (refine ⟨⟨rfl, by omega, rfl, rfl, has_a, rfl⟩, ?_⟩)
        (refine fin_auto ?_; conv => whnf); exact ⟨rfl, rfl, rfl, rfl, has_a, rfl⟩
end Go.Proofs.YtlkfolopbehikaaGreat
set_option linter.unusedSimpArgs false
set_option linter.unusedVariables false
namespace Go.Proofs.YtlkfolopbehikaaGreat
open Go Go.Sx

theorem slotsUse_spec (m : Nat) (tail : Int) (n : Nat) (st dl nu stp : Nat → Int) :
    FSpec Tryz.prog 232 [(0, some (slotsP0 m tail n st dl nu stp))] 2 [.l (.p 0 0 0 0), .l (.p 1 0 0 0)] fun x h k =>
      x = .t [] ∧ k = 2 ∧ h = [(0, some (packE (slotsH1 m tail n st dl nu stp) 4 1))] := by
  refine spec_of_ev_g (open_at 0 (h := [(0, some (slotsP0 m tail n st dl nu stp))]) (n := 2) (ks := []) (H := slotsH0 m tail n st dl nu stp) (np := 3) rfl (by decide) rfl rfl rfl) Tryz.func232 ic232_eq (rs := []) (by kernel_rfl) (by kernel_rfl) (by kernel_rfl) fun G hP hA => ?_
  unfold evF ic232
  conv => whnf
  (refine fin_close (H := (slotsH1 m tail n st dl nu stp)) (np := 4) 0 1 (Nat.le_of_ble_eq_true rfl) ?_; conv => whnf); (refine ⟨⟨rfl, by omega, rfl, rfl, has_a, rfl⟩, ?_⟩)
  (refine fin_auto ?_; conv => whnf); exact ⟨rfl, rfl, rfl, rfl, has_a, rfl⟩
theorem invUse_slots (v : Value) (args : Array Value) (w : World) : (callMethod (.iface 224 v) "Use" args).run Tryz.prog w = .ok (.enter 232 (#[v] ++ args)) w := by kernel_rfl
theorem lay2_bad (th : Int) (hs ws h : Nat → Int) (m : Nat) (start slots pool budget glob loc : Int) (hm : m ≤ 80) (hb : m < 1 ∨ 64 < m ∨ anyZ badH h m = true) :
    FSpec Tryz.prog 64 [(0, some (planP th 0 hs ws)), (1, some (.ro 1 m (numE h)))] 2 [.l (.p 0 0 0 0), confA 2 1 m start slots pool budget glob loc] fun x h' k =>
      x = .t [.l (.v (.iface 224 (.pointer none))), .l (.v (.int .i64 1))] ∧ k = 2 ∧ h' = [(0, some (planP th 0 hs ws))] := by
  have hcn := slotsNew_bad th 0 hs ws h m slots start hm hb
  refine spec_of_ev Tryz.func64 ic64_eq (rs := [.t 4, .t 5]) (by kernel_rfl) (by kernel_rfl) (by kernel_rfl) fun G hP hA => ?_
  unfold evF ic64
  conv => whnf
  (refine call_auto hP (hcn) ?_; conv => whnf); (refine ⟨⟨rfl, rfl, rfl, has_a, rfl, rfl⟩, ?_⟩; conv => whnf)
  (refine fin_auto ?_; conv => whnf); exact ⟨rfl, rfl, rfl, rfl, has_a, rfl⟩
theorem lay2_none (th : Int) (hs ws h : Nat → Int) (m : Nat) (start slots pool budget glob loc : Int) (hm : 1 ≤ m ∧ m ≤ 64) (hb : anyZ badH h m = false) (hn : slots < m ∨ anyZ (fun x => decide (slots = x)) sizN 7 = false) :
    FSpec Tryz.prog 64 [(0, some (planP th 0 hs ws)), (1, some (.ro 1 m (numE h)))] 2 [.l (.p 0 0 0 0), confA 2 1 m start slots pool budget glob loc] fun x h' k =>
      x = .t [.l (.v (.iface 224 (.pointer none))), .l (.v (.int .i64 7))] ∧ k = 2 ∧ h' = [(0, some (planP th 0 hs ws))] := by
  have hcn := slotsNew_none th 0 hs ws h m slots start hm hb hn
  refine spec_of_ev Tryz.func64 ic64_eq (rs := [.t 4, .t 5]) (by kernel_rfl) (by kernel_rfl) (by kernel_rfl) fun G hP hA => ?_
  unfold evF ic64
  conv => whnf
  (refine call_auto hP (hcn) ?_; conv => whnf); (refine ⟨⟨rfl, rfl, rfl, has_a, rfl, rfl⟩, ?_⟩; conv => whnf)
  (refine fin_auto ?_; conv => whnf); exact ⟨rfl, rfl, rfl, rfl, has_a, rfl⟩
theorem lay2_ok (th : Int) (hs ws h : Nat → Int) (m : Nat) (start slots : Nat) (pool budget glob loc : Int) (hm : 1 ≤ m ∧ m ≤ 64) (hu : start < 4294967296) (hn : isSize slots) (hmn : m ≤ slots) (hb : anyZ badH h m = false) :
    FSpec Tryz.prog 64 [(0, some (planP th 0 hs ws)), (1, some (.ro 1 m (numE h)))] 2 [.l (.p 0 0 0 0), confA 2 1 m start slots pool budget glob loc] fun x h' k =>
      x = .t [.l (.i 224 2), .l (.v (.int .i64 0))] ∧ k = 3 ∧ h' = [(0, some (planP th (1 + slots) (slotsHs hs 0 h m slots) (slotsWs ws 0 start slots))), (2, some (slotsP0 m 0 slots (fun _ => 0) (fun _ => -1) (fun _ => 0) fun _ => 0))] := by
  have hcn := slotsNew_ok th 0 hs ws h m slots start (by omega) hm hb hu hn hmn
  rw [show 0 + 1 + slots = 1 + slots by omega] at hcn
  refine spec_of_ev Tryz.func64 ic64_eq (rs := [.t 4, .t 5]) (by kernel_rfl) (by kernel_rfl) (by kernel_rfl) fun G hP hA => ?_
  unfold evF ic64
  conv => whnf
  (refine call_auto hP (hcn) ?_; conv => whnf); (refine ⟨⟨rfl, rfl, rfl, has_a, rfl, rfl⟩, ?_⟩; conv => whnf)
  (refine fin_auto ?_; conv => whnf); exact ⟨rfl, rfl, rfl, rfl, has_a, rfl⟩
theorem slotsHs_good {hs h : Nat → Int} {m n : Nat} (hm : 1 ≤ m ∧ m ≤ 64) (hb : anyZ badH h m = false) : anyZ badH (slotsHs hs 0 h m n) (1 + n) = false := by
  have h0 := anyZ_false.1 hb
  refine anyZ_false.2 fun j hj => ?_
  refine snoc_all (Q := fun x => badH x = false) (m := 0 + 1) (fun j hj => ?_) n (fun j hj => h0 _ (Nat.mod_lt _ (by omega))) j (by omega)
  exact tail_all (Q := fun x => badH x = false) (fun j hj => absurd hj (Nat.not_lt_zero _)) (h0 0 (by omega)) j
theorem buildNew2_ok (h : Nat → Int) (m : Nat) (start slots : Nat) (pool budget glob loc : Int) (hm : 1 ≤ m ∧ m ≤ 64) (hu : start < 4294967296) (hn : isSize slots) (hmn : m ≤ slots) (hb : anyZ badH h m = false) :
    FSpec Tryz.prog 33 [(0, some (.ro 1 m (numE h)))] 1 [confA 2 0 m start slots pool budget glob loc] fun x h' k =>
      x = .t [.l (.i 224 1), .l (.p 2 0 0 0), .l (.v (.int .i64 0))] ∧ k = 3 ∧ h' = [(1, some (.ob [2] (PackR (slotsH1 m 0 slots (fun _ => 0) (fun _ => -1) (fun _ => 0) fun _ => 0) 4))),
        (2, some (portP m (1 + slots) (cutF (slotsWs (fun _ => 0) 0 start slots) (1 + slots)) (slotsHs (fun _ => 0) 0 h m slots) (fun _ => 0) (fun _ => 0) (fun _ => 0) fun _ => 0))] := by
  have hpn := planNew_spec (m : Int) (fun _ => 0) fun _ => 0
  have hly := lay2_ok (m : Int) (fun _ => 0) (fun _ => 0) h m start slots pool budget glob loc hm hu hn hmn hb
  have hpp := planPort_ok m (1 + slots) (slotsHs (fun _ => 0) 0 h m slots) (slotsWs (fun _ => 0) 0 start slots) hm (by first | omega | (unfold isSize at hn; omega)) (slotsHs_good hm hb)
  have hu := slotsUse_spec m 0 slots (fun _ => 0) (fun _ => -1) (fun _ => 0) fun _ => 0
  refine spec_of_ev Tryz.func33 ic33_eq (rs := [.t 2, .t 3, .t 4]) (by kernel_rfl) (by kernel_rfl) (by kernel_rfl) fun G hP hA => ?_
  unfold evF ic33
  conv => whnf
  (repeat' (first | (refine And.intro (by (first | omega | assumption | (simp only [nadd_eq]; omega) | (simp [nadd_eq]; omega))) ?_; conv => whnf) | (refine arI64 (by omega) (by omega) ?_; conv => whnf) | (refine arU32 (by omega) (by omega) ?_; conv => whnf) | (refine arU8 (by omega) (by omega) ?_; conv => whnf)))
  (refine call_auto hP (hpn) ?_; conv => whnf); (refine ⟨⟨rfl, rfl, rfl, has_a, rfl, rfl⟩, ?_⟩; conv => whnf)
  (refine call_auto hP (hly) ?_; conv => whnf); (refine ⟨⟨rfl, rfl, rfl, has_a, rfl, rfl⟩, ?_⟩; conv => whnf)
  (refine call_auto hP (hpp) ?_; conv => whnf); (refine ⟨⟨rfl, rfl, rfl, has_a, rfl, rfl⟩, ?_⟩; conv => whnf)
  refine inv_own hP invUse_slots ?_
  (refine call_auto hP (hu) ?_; conv => whnf); (refine ⟨⟨rfl, rfl, rfl, has_a, rfl, rfl⟩, ?_⟩; conv => whnf)
  (refine fin_auto ?_; conv => whnf); exact ⟨rfl, rfl, rfl, rfl, has_a, rfl⟩

theorem abortUse_spec (m E : Nat) (tail : Int) (st dl stp tr no ot : Nat → Int) :
    FSpec Tryz.prog 253 [(0, some (abortP0 m E tail st dl stp tr no ot))] 2 [.l (.p 0 0 0 0), .l (.p 1 0 0 0)] fun x h k =>
      x = .t [] ∧ k = 2 ∧ h = [(0, some (packE (abortH1 m E tail st dl stp tr no ot) 5 1))] := by
  refine spec_of_ev_g (open_at 0 (h := [(0, some (abortP0 m E tail st dl stp tr no ot))]) (n := 2) (ks := []) (H := abortH0 m E tail st dl stp tr no ot) (np := 4) rfl (by decide) rfl rfl rfl) Tryz.func253 ic253_eq (rs := []) (by kernel_rfl) (by kernel_rfl) (by kernel_rfl) fun G hP hA => ?_
  unfold evF ic253
  conv => whnf
  (refine fin_close (H := (abortH1 m E tail st dl stp tr no ot)) (np := 5) 0 1 (Nat.le_of_ble_eq_true rfl) ?_; conv => whnf); (refine ⟨⟨rfl, by omega, rfl, rfl, has_a, rfl⟩, ?_⟩)
  (refine fin_auto ?_; conv => whnf); exact ⟨rfl, rfl, rfl, rfl, has_a, rfl⟩
theorem invUse_abort (v : Value) (args : Array Value) (w : World) : (callMethod (.iface 233 v) "Use" args).run Tryz.prog w = .ok (.enter 253 (#[v] ++ args)) w := by kernel_rfl
theorem lay5_bad (th : Int) (hs ws h : Nat → Int) (m : Nat) (start slots pool budget glob loc : Int) (hm : m ≤ 80) (hb : m < 1 ∨ 64 < m ∨ anyZ badH h m = true) :
    FSpec Tryz.prog 64 [(0, some (planP th 0 hs ws)), (1, some (.ro 1 m (numE h)))] 2 [.l (.p 0 0 0 0), confA 5 1 m start slots pool budget glob loc] fun x h' k =>
      x = .t [.l (.v (.iface 233 (.pointer none))), .l (.v (.int .i64 1))] ∧ k = 2 ∧ h' = [(0, some (planP th 0 hs ws))] := by
  have hcn := abortNew_bad th 0 hs ws h m pool hm hb
  refine spec_of_ev Tryz.func64 ic64_eq (rs := [.t 4, .t 5]) (by kernel_rfl) (by kernel_rfl) (by kernel_rfl) fun G hP hA => ?_
  unfold evF ic64
  conv => whnf
  (refine call_auto hP (hcn) ?_; conv => whnf); (refine ⟨⟨rfl, rfl, rfl, has_a, rfl, rfl⟩, ?_⟩; conv => whnf)
  (refine fin_auto ?_; conv => whnf); exact ⟨rfl, rfl, rfl, rfl, has_a, rfl⟩
theorem lay5_none (th : Int) (hs ws h : Nat → Int) (m : Nat) (start slots pool budget glob loc : Int) (hm : 1 ≤ m ∧ m ≤ 64) (hb : anyZ badH h m = false) (hn : pool < 1 ∨ 8 < pool) :
    FSpec Tryz.prog 64 [(0, some (planP th 0 hs ws)), (1, some (.ro 1 m (numE h)))] 2 [.l (.p 0 0 0 0), confA 5 1 m start slots pool budget glob loc] fun x h' k =>
      x = .t [.l (.v (.iface 233 (.pointer none))), .l (.v (.int .i64 7))] ∧ k = 2 ∧ h' = [(0, some (planP th 0 hs ws))] := by
  have hcn := abortNew_none th 0 hs ws h m pool hm hb hn
  refine spec_of_ev Tryz.func64 ic64_eq (rs := [.t 4, .t 5]) (by kernel_rfl) (by kernel_rfl) (by kernel_rfl) fun G hP hA => ?_
  unfold evF ic64
  conv => whnf
  (refine call_auto hP (hcn) ?_; conv => whnf); (refine ⟨⟨rfl, rfl, rfl, has_a, rfl, rfl⟩, ?_⟩; conv => whnf)
  (refine fin_auto ?_; conv => whnf); exact ⟨rfl, rfl, rfl, rfl, has_a, rfl⟩
theorem lay5_ok (th : Int) (hs ws h : Nat → Int) (m : Nat) (pool : Nat) (start slots budget glob loc : Int) (hm : 1 ≤ m ∧ m ≤ 64) (hE : 1 ≤ pool ∧ pool ≤ 8) (hb : anyZ badH h m = false) :
    FSpec Tryz.prog 64 [(0, some (planP th 0 hs ws)), (1, some (.ro 1 m (numE h)))] 2 [.l (.p 0 0 0 0), confA 5 1 m start slots pool budget glob loc] fun x h' k =>
      x = .t [.l (.i 233 2), .l (.v (.int .i64 0))] ∧ k = 3 ∧ h' = [(0, some (planP th (1 + 3 * pool * m) (abortHs hs 0 pool h m) (abortWs ws 0 pool m))), (2, some (abortP0 m pool 0 (fun _ => 0) (fun _ => -1) (fun _ => 0) (fun _ => 0) (fun _ => 0) fun _ => 0))] := by
  have hcn := abortNew_ok th 0 hs ws h m pool (by omega) hm hE hb
  rw [show 0 + 1 + 3 * pool * m = 1 + 3 * pool * m by omega] at hcn
  refine spec_of_ev Tryz.func64 ic64_eq (rs := [.t 4, .t 5]) (by kernel_rfl) (by kernel_rfl) (by kernel_rfl) fun G hP hA => ?_
  unfold evF ic64
  conv => whnf
  (refine call_auto hP (hcn) ?_; conv => whnf); (refine ⟨⟨rfl, rfl, rfl, has_a, rfl, rfl⟩, ?_⟩; conv => whnf)
  (refine fin_auto ?_; conv => whnf); exact ⟨rfl, rfl, rfl, rfl, has_a, rfl⟩
theorem abortHs_good {hs h : Nat → Int} {m E : Nat} (hm : 1 ≤ m ∧ m ≤ 64) (hb : anyZ badH h m = false) : anyZ badH (abortHs hs 0 E h m) (1 + 3 * E * m) = false := by
  have h0 := anyZ_false.1 hb
  refine anyZ_false.2 fun j hj => ?_
  refine rows_all (Q := fun x => badH x = false) (q := 3 * E) (m := 0 + 1) (fun j hj => ?_) m (fun j hj => h0 j hj) j (by omega)
  exact tail_all (Q := fun x => badH x = false) (fun j hj => absurd hj (Nat.not_lt_zero _)) (h0 0 (by omega)) j
theorem buildNew5_ok (h : Nat → Int) (m : Nat) (pool : Nat) (start slots budget glob loc : Int) (hm : 1 ≤ m ∧ m ≤ 64) (hE : 1 ≤ pool ∧ pool ≤ 8) (hb : anyZ badH h m = false) :
    FSpec Tryz.prog 33 [(0, some (.ro 1 m (numE h)))] 1 [confA 5 0 m start slots pool budget glob loc] fun x h' k =>
      x = .t [.l (.i 233 1), .l (.p 2 0 0 0), .l (.v (.int .i64 0))] ∧ k = 3 ∧ h' = [(1, some (.ob [2] (PackR (abortH1 m pool 0 (fun _ => 0) (fun _ => -1) (fun _ => 0) (fun _ => 0) (fun _ => 0) fun _ => 0) 5))),
        (2, some (portP m (1 + 3 * pool * m) (cutF (abortWs (fun _ => 0) 0 pool m) (1 + 3 * pool * m)) (abortHs (fun _ => 0) 0 pool h m) (fun _ => 0) (fun _ => 0) (fun _ => 0) fun _ => 0))] := by
  have hpn := planNew_spec (m : Int) (fun _ => 0) fun _ => 0
  have hly := lay5_ok (m : Int) (fun _ => 0) (fun _ => 0) h m pool start slots budget glob loc hm hE hb
  have hpp := planPort_ok m (1 + 3 * pool * m) (abortHs (fun _ => 0) 0 pool h m) (abortWs (fun _ => 0) 0 pool m) hm (by first | omega | (have := Nat.mul_le_mul (show 3 * pool ≤ 24 by omega) hm.2; omega)) (abortHs_good hm hb)
  have hu := abortUse_spec m pool 0 (fun _ => 0) (fun _ => -1) (fun _ => 0) (fun _ => 0) (fun _ => 0) fun _ => 0
  refine spec_of_ev Tryz.func33 ic33_eq (rs := [.t 2, .t 3, .t 4]) (by kernel_rfl) (by kernel_rfl) (by kernel_rfl) fun G hP hA => ?_
  unfold evF ic33
  conv => whnf
  (repeat' (first | (refine And.intro (by (first | omega | assumption | (simp only [nadd_eq]; omega) | (simp [nadd_eq]; omega))) ?_; conv => whnf) | (refine arI64 (by omega) (by omega) ?_; conv => whnf) | (refine arU32 (by omega) (by omega) ?_; conv => whnf) | (refine arU8 (by omega) (by omega) ?_; conv => whnf)))
  (refine call_auto hP (hpn) ?_; conv => whnf); (refine ⟨⟨rfl, rfl, rfl, has_a, rfl, rfl⟩, ?_⟩; conv => whnf)
  (refine call_auto hP (hly) ?_; conv => whnf); (refine ⟨⟨rfl, rfl, rfl, has_a, rfl, rfl⟩, ?_⟩; conv => whnf)
  (refine call_auto hP (hpp) ?_; conv => whnf); (refine ⟨⟨rfl, rfl, rfl, has_a, rfl, rfl⟩, ?_⟩; conv => whnf)
  refine inv_own hP invUse_abort ?_
  (refine call_auto hP (hu) ?_; conv => whnf); (refine ⟨⟨rfl, rfl, rfl, has_a, rfl, rfl⟩, ?_⟩; conv => whnf)
  (refine fin_auto ?_; conv => whnf); exact ⟨rfl, rfl, rfl, rfl, has_a, rfl⟩
end Go.Proofs.YtlkfolopbehikaaGreat
set_option linter.unusedSimpArgs false
set_option linter.unusedVariables false
namespace Go.Proofs.YtlkfolopbehikaaGreat
open Go Go.Sx

def inT : Nat → Nat
  | 1 => 221
  | 3 => 227
  | _ => 230
/-- How many words an inner lock has; their homes, and they themselves. -/
def inN : Nat → Nat → Nat
  | 1, _ => 2
  | 3, m => 2 + m
  | _, m => 1 + 2 * m
def inHs : Nat → (Nat → Int) → Nat → (Nat → Int) → Nat → Nat → Int
  | 1, hs, M, h, _ => flatHs hs M h
  | 3, hs, M, h, m => clhHs hs M h m
  | _, hs, M, h, m => mcsHs hs M h m
def inWs : Nat → (Nat → Int) → Nat → Nat → Nat → Int
  | 1, ws, M, _ => flatWs ws M 0
  | 3, ws, M, m => clhWs ws M m
  | _, ws, M, m => mcsWs ws M m
abbrev RelT := List Go.Sx.Loc → Go.Sx.Loc → List Nat → World → Prop
/-- An inner lock that uses no port yet; .. with its port. -/
def inR0 : Nat → Nat → Nat → RelT
  | 1, m, M => PackR (flatH0 m M (M + 1) (fun _ => 0) (fun _ => -1) (fun _ => 0) fun _ => false) 4
  | 3, m, M => PackR (clhH0 m M (fun _ => 0) (fun _ => -1) (fun i => i + 1) (fun _ => 0) fun _ => 0) 3
  | _, m, M => PackR (mcsH0 m M (fun _ => 0) (fun _ => -1) (fun _ => 0) fun _ => 0) 3
def inR1 : Nat → Nat → Nat → RelT
  | 1, m, M => PackR (flatH1 m M (M + 1) (fun _ => 0) (fun _ => -1) (fun _ => 0) fun _ => false) 5
  | 3, m, M => PackR (clhH1 m M (fun _ => 0) (fun _ => -1) (fun i => i + 1) (fun _ => 0) fun _ => 0) 4
  | _, m, M => PackR (mcsH1 m M (fun _ => 0) (fun _ => -1) (fun _ => 0) fun _ => 0) 4
theorem inR0_stable (k m M : Nat) (ls : List Go.Sx.Loc) : Stable (inR0 k m M ls) := by
  unfold inR0; split <;> exact packR_stable _ _ _
theorem inR1_stable (k m M : Nat) (ls : List Go.Sx.Loc) : Stable (inR1 k m M ls) := by
  unfold inR1; split <;> exact packR_stable _ _ _
def inUse : Nat → Nat
  | 1 => 215
  | 3 => 236
  | _ => 244
def isIn (k : Nat) : Prop := k = 1 ∨ k = 3 ∨ k = 4
theorem inner_ok (kd : Nat) (hk : isIn kd) (th : Int) (M : Nat) (hs ws h : Nat → Int) (m : Nat) (hM : M ≤ 10000) (hm : 1 ≤ m ∧ m ≤ 64) (hb : anyZ badH h m = false) :
    FSpec Tryz.prog 143 [(0, some (planP th M hs ws)), (1, some (.ro 1 m (numE h)))] 2 [.l (.p 0 0 0 0), .l (.v (.int .i64 kd)), .l (.s 1 1 0 m 0)] fun x h' k =>
      x = .o (.l (.i (inT kd) 2)) ∧ k = 3 ∧ h' = [(0, some (planP th (M + inN kd m) (inHs kd hs M h m) (inWs kd ws M m))), (2, some (.ob [] (inR0 kd m M)))] := by
  have h1 := flatNew_ok th M hs ws h m 0 (by omega) hm hb
  have h3 := clhNew_ok th M hs ws h m (by omega) hm hb
  have h4 := mcsNew_ok th M hs ws h m (by omega) hm hb
  refine spec_of_ev Tryz.func143 ic143_eq (rs := [.t 6]) (by kernel_rfl) (by kernel_rfl) (by kernel_rfl) fun G hP hA => ?_
  unfold evF ic143
  rcases hk with rfl | rfl | rfl
  · conv => whnf
    (refine call_auto hP (h1) ?_; conv => whnf); (refine ⟨⟨rfl, rfl, rfl, has_a, rfl, rfl⟩, ?_⟩; conv => whnf)
    (refine fin_auto ?_; conv => whnf); exact ⟨rfl, rfl, rfl, rfl, has_a, rfl⟩
  · rw [Nat.add_assoc] at h3
    conv => whnf
    (refine call_auto hP (h3) ?_; conv => whnf); (refine ⟨⟨rfl, rfl, rfl, has_a, rfl, rfl⟩, ?_⟩; conv => whnf)
    (refine fin_auto ?_; conv => whnf); exact ⟨rfl, rfl, rfl, rfl, has_a, rfl⟩
  · rw [Nat.add_assoc] at h4
    conv => whnf
    (refine call_auto hP (h4) ?_; conv => whnf); (refine ⟨⟨rfl, rfl, rfl, has_a, rfl, rfl⟩, ?_⟩; conv => whnf)
    (refine fin_auto ?_; conv => whnf); exact ⟨rfl, rfl, rfl, rfl, has_a, rfl⟩
theorem inUse_spec (kd : Nat) (hk : isIn kd) (m M : Nat) :
    FSpec Tryz.prog (inUse kd) [(0, some (.ob [] (inR0 kd m M)))] 2 [.l (.p 0 0 0 0), .l (.p 1 0 0 0)] fun x h k => x = .t [] ∧ k = 2 ∧ h = [(0, some (.ob [1] (inR1 kd m M)))] := by
  rcases hk with rfl | rfl | rfl
  · exact flatUse_spec m M (M + 1) (fun _ => 0) (fun _ => -1) (fun _ => 0) fun _ => false
  · exact clhUse_spec m M (fun _ => 0) (fun _ => -1) (fun i => i + 1) (fun _ => 0) fun _ => 0
  · exact mcsUse_spec m M (fun _ => 0) (fun _ => -1) (fun _ => 0) fun _ => 0
theorem invUse_in (kd : Nat) (hk : isIn kd) (v : Value) (args : Array Value) (w : World) : (callMethod (.iface (inT kd) v) "Use" args).run Tryz.prog w = .ok (.enter (inUse kd) (#[v] ++ args)) w := by
  rcases hk with rfl | rfl | rfl
  · exact invUse_flat v args w
  · exact invUse_clh v args w
  · exact invUse_mcs v args w
end Go.Proofs.YtlkfolopbehikaaGreat
set_option linter.unusedSimpArgs false
set_option linter.unusedVariables false
namespace Go.Proofs.YtlkfolopbehikaaGreat
open Go Go.Sx

theorem planLen_spec (th : Int) (M : Nat) (hs ws : Nat → Int) : FSpec Tryz.prog 142 [(0, some (planP th M hs ws))] 1 [.l (.p 0 0 0 0)] fun x h k => x = sInt .i64 (M : Int) ∧ k = 1 ∧ h = [(0, some (planP th M hs ws))] := by
  refine spec_of_ev_g (open_spec (planH th M hs ws) 3 0 (by omega)) Tryz.func142 ic142_eq (rs := [.t 2]) (by kernel_rfl) (by kernel_rfl) (by kernel_rfl) fun G hP hA => ?_
  unfold evF ic142
  conv => whnf
  (refine fin_close (H := (planH th M hs ws)) (np := 3) 0 0 (Nat.le_of_ble_eq_true rfl) ?_; conv => whnf); (refine ⟨⟨rfl, by omega, rfl, rfl, has_a, rfl⟩, ?_⟩)
  (refine fin_auto ?_; conv => whnf); exact ⟨rfl, rfl, rfl, rfl, has_a, rfl⟩
theorem badCoh_spec (v : Int) : FSpec Tryz.prog 141 [] 0 [.l (.v (.int .i64 v))] fun x h n => x = sBool (badH v) ∧ n = 0 ∧ h = [] := by
  refine spec_of_ev Tryz.func141 ic141_eq (rs := [.t 2]) (by kernel_rfl) (by kernel_rfl) (by kernel_rfl) fun G hP hA => ?_
  unfold evF ic141
  conv => whnf
  (repeat' (first | (refine join_plain ?_; conv => whnf) | (refine dsplit (fun _ => ?_) (fun _ => ?_) <;> conv => whnf)))
  all_goals (((refine fin_auto ?_; conv => whnf); refine ⟨rfl, rfl, rfl, bool_fin ?_, has_a, rfl⟩); unfold badH; rw [Bool.eq_iff_iff]; simp; omega)
def gl2 : Nat → Int | 0 => 1 | _ => 4
def loc3 : Nat → Int | 0 => 1 | 1 => 3 | _ => 4
/-- How many of the first i homes are j. -/
def cnt (h : Nat → Int) : Nat → Nat → Nat
  | 0, _ => 0
  | i + 1, j => cnt h i j + if h i = (j : Int) then 1 else 0
theorem cnt_le (h : Nat → Int) : ∀ i j, cnt h i j ≤ i
  | 0, _ => Nat.le_refl 0
  | i + 1, j => by
    have := cnt_le h i j
    simp only [cnt]
    split <;> omega
/-- What is laid behind the locks of the first i nodes. -/
def l3 (l : Nat) (cn : Nat → Nat) (p0 : Nat × (Nat → Int) × (Nat → Int)) : Nat → Nat × (Nat → Int) × (Nat → Int)
  | 0 => p0
  | i + 1 => bif Nat.blt 0 (cn i) then ((l3 l cn p0 i).1 + inN l (cn i), inHs l (l3 l cn p0 i).2.1 (l3 l cn p0 i).1 (fun _ => (i : Int)) (cn i), inWs l (l3 l cn p0 i).2.2 (l3 l cn p0 i).1 (cn i)) else l3 l cn p0 i
theorem l3_yes {l : Nat} {cn : Nat → Nat} {p0 : Nat × (Nat → Int) × (Nat → Int)} {i : Nat} (h : Nat.blt 0 (cn i) = true) : l3 l cn p0 (i + 1) = ((l3 l cn p0 i).1 + inN l (cn i), inHs l (l3 l cn p0 i).2.1 (l3 l cn p0 i).1 (fun _ => (i : Int)) (cn i), inWs l (l3 l cn p0 i).2.2 (l3 l cn p0 i).1 (cn i)) := by rw [l3, h]; rfl
theorem l3_no {l : Nat} {cn : Nat → Nat} {p0 : Nat × (Nat → Int) × (Nat → Int)} {i : Nat} (h : Nat.blt 0 (cn i) = false) : l3 l cn p0 (i + 1) = l3 l cn p0 i := by rw [l3, h]; rfl
theorem inN_le (k m : Nat) : inN k m ≤ 2 + 2 * m := by unfold inN; split <;> omega
theorem l3_le {l : Nat} {cn : Nat → Nat} {p0 : Nat × (Nat → Int) × (Nat → Int)} (hc : ∀ j, cn j ≤ 64) : ∀ i, (l3 l cn p0 i).1 ≤ p0.1 + 130 * i
  | 0 => Nat.le_refl _
  | i + 1 => by
    have ih := l3_le (l := l) (p0 := p0) hc i
    cases h : Nat.blt 0 (cn i) with
    | true =>
      rw [l3_yes h]
      have h1 := inN_le l (cn i)
      have h2 := hc i
      show (l3 l cn p0 i).1 + inN l (cn i) ≤ _
      omega
    | false => rw [l3_no h]; omega
def lb (cn : Nat → Nat) (i j : Nat) : Bool := Nat.blt j i && Nat.blt 0 (cn j)
/-- What a lock of locks knows of each context: its node, its number in the local lock, what it does next, the pass. -/
def placeE (no inn : Nat → Int) : Nat → List Value := fun t => [.int .i64 (no t), .int .i64 (inn t), .nilFunc, .int .u32 0]
def placeI (h : Nat → Int) (i : Nat) : Nat → List Value := placeE (fun t => if t < i then h t else 0) fun t => if t < i then (cnt h t (h t).toNat : Int) else 0
def p0F (M g : Nat) (hs ws : Nat → Int) : Nat × (Nat → Int) × (Nat → Int) := (M + 8 + inN g 8, inHs g (snocF hs M (fun i => (i : Int)) 8) (M + 8) (fun i => (i : Int)) 8, inWs g (snocF ws M (fun _ => 0) 8) (M + 8) 8)
/-- A lock of locks that uses no port yet. -/
def cohH0 (m M g l : Nat) (budget : Int) (cn : Nat → Nat) (p0 : Nat × (Nat → Int) × (Nat → Int)) (pl : Nat → List Value) : Heap :=
  [(0, some (.st [.p 1 0 0 0, .v (.pointer none), .v (.int .i64 M), .v (.int .u32 budget), .i (inT g) 2, .io (lb cn 8 0) (inT l) 4, .io (lb cn 8 1) (inT l) 5, .io (lb cn 8 2) (inT l) 6, .io (lb cn 8 3) (inT l) 7, .io (lb cn 8 4) (inT l) 8, .io (lb cn 8 5) (inT l) 9, .io (lb cn 8 6) (inT l) 10, .io (lb cn 8 7) (inT l) 11, .s 3 4 0 m 0])), (1, some (seatP m (fun _ => 0) (fun _ => -1) false false)), (2, some (.ob [] (inR0 g 8 (M + 8)))), (3, some (.ar 4 m pl)), (4, some (.ob [] (OptR (lb cn 8 0) (inR0 l (cn 0) (l3 l cn p0 0).1)))), (5, some (.ob [] (OptR (lb cn 8 1) (inR0 l (cn 1) (l3 l cn p0 1).1)))), (6, some (.ob [] (OptR (lb cn 8 2) (inR0 l (cn 2) (l3 l cn p0 2).1)))), (7, some (.ob [] (OptR (lb cn 8 3) (inR0 l (cn 3) (l3 l cn p0 3).1)))), (8, some (.ob [] (OptR (lb cn 8 4) (inR0 l (cn 4) (l3 l cn p0 4).1)))), (9, some (.ob [] (OptR (lb cn 8 5) (inR0 l (cn 5) (l3 l cn p0 5).1)))), (10, some (.ob [] (OptR (lb cn 8 6) (inR0 l (cn 6) (l3 l cn p0 6).1)))), (11, some (.ob [] (OptR (lb cn 8 7) (inR0 l (cn 7) (l3 l cn p0 7).1))))]
def cohP0 (m M g l : Nat) (budget : Int) (cn : Nat → Nat) (p0 : Nat × (Nat → Int) × (Nat → Int)) (pl : Nat → List Value) : Ent := .ob [] (PackR (cohH0 m M g l budget cn p0 pl) 12)

theorem cohNew_bad (th : Int) (M : Nat) (hs ws h : Nat → Int) (m : Nat) (g l bu : Int) (hm : m ≤ 80) (hb : m < 1 ∨ 64 < m ∨ anyZ badH h m = true) :
    FSpec Tryz.prog 111 [(0, some (planP th M hs ws)), (1, some (.ro 1 m (numE h)))] 2 [.l (.p 0 0 0 0), .l (.s 1 1 0 m 0), .l (.v (.int .i64 g)), .l (.v (.int .i64 l)), .l (.v (.int .i64 bu))] fun x h' k =>
      x = .t [.l (.v (.pointer none)), .l (.v (.int .i64 1))] ∧ k = 2 ∧ h' = [(0, some (planP th M hs ws))] := by
  refine spec_of_ev Tryz.func111 ic111_eq (rs := [.t 10, .t 11]) (by kernel_rfl) (by kernel_rfl) (by kernel_rfl) fun G hP hA => ?_
  unfold evF ic111
  by_cases h1 : m < 1 ∨ 64 < m
  · have hse := seatNew_bad (m : Int) false false (by omega)
    conv => whnf
    (refine call_auto hP (hse) ?_; conv => whnf); (refine ⟨⟨rfl, rfl, rfl, has_a, rfl, rfl⟩, ?_⟩; conv => whnf)
    (refine fin_auto ?_; conv => whnf); exact ⟨rfl, rfl, rfl, rfl, has_a, rfl⟩
  · have hse := seatNew_ok m false false (by omega)
    have hcf := containsf_spec 141 badH badCoh_spec h m (by omega)
    rw [show anyZ badH h m = true from by rcases hb with hb | hb | hb <;> first | exact hb | omega] at hcf
    conv => whnf
    (refine call_auto hP (hse) ?_; conv => whnf); (refine ⟨⟨rfl, rfl, rfl, has_a, rfl, rfl⟩, ?_⟩; conv => whnf)
    (refine call_auto hP (hcf) ?_; conv => whnf); (refine ⟨⟨rfl, rfl, rfl, has_a, rfl, rfl⟩, ?_⟩; conv => whnf)
    (refine fin_auto ?_; conv => whnf); exact ⟨rfl, rfl, rfl, rfl, has_a, rfl⟩
set_option maxRecDepth 4000 in
theorem cohNew_none (th : Int) (M : Nat) (hs ws h : Nat → Int) (m : Nat) (g l bu : Int) (hm : 1 ≤ m ∧ m ≤ 64) (hb : anyZ badH h m = false) (hn : anyZ (fun x => decide (g = x)) gl2 2 = false ∨ anyZ (fun x => decide (l = x)) loc3 3 = false ∨ bu < 1 ∨ 1000 < bu) :
    FSpec Tryz.prog 111 [(0, some (planP th M hs ws)), (1, some (.ro 1 m (numE h)))] 2 [.l (.p 0 0 0 0), .l (.s 1 1 0 m 0), .l (.v (.int .i64 g)), .l (.v (.int .i64 l)), .l (.v (.int .i64 bu))] fun x h' k =>
      x = .t [.l (.v (.pointer none)), .l (.v (.int .i64 7))] ∧ k = 2 ∧ h' = [(0, some (planP th M hs ws))] := by
  have hse := seatNew_ok m false false (by omega)
  have hcf := containsf_spec 141 badH badCoh_spec h m (by omega)
  rw [hb] at hcf
  have hc2 := contains_spec g gl2 2 (by omega)
  have hc3 := contains_spec l loc3 3 (by omega)
  refine spec_of_ev Tryz.func111 ic111_eq (rs := [.t 10, .t 11]) (by kernel_rfl) (by kernel_rfl) (by kernel_rfl) fun G hP hA => ?_
  unfold evF ic111
  cases hg : anyZ (fun x => decide (g = x)) gl2 2 with
  | false =>
    rw [hg] at hc2
    conv => whnf
    (refine call_auto hP (hse) ?_; conv => whnf); (refine ⟨⟨rfl, rfl, rfl, has_a, rfl, rfl⟩, ?_⟩; conv => whnf)
    (refine call_auto hP (hcf) ?_; conv => whnf); (refine ⟨⟨rfl, rfl, rfl, has_a, rfl, rfl⟩, ?_⟩; conv => whnf)
    (refine call_auto hP (hc2) ?_; conv => whnf); refine ⟨⟨rfl, rfl, rfl, ?_, rfl, rfl⟩, ?_⟩
    · exact ⟨⟨rfl, Nat.le_refl _, fun i hi => by rcases (show i = 0 ∨ i = 1 by omega) with rfl | rfl <;> rfl⟩, trivial⟩
    conv => whnf
    (refine fin_auto ?_; conv => whnf); exact ⟨rfl, rfl, rfl, rfl, has_a, rfl⟩
  | true =>
    rw [hg] at hc2
    conv => whnf
    (refine call_auto hP (hse) ?_; conv => whnf); (refine ⟨⟨rfl, rfl, rfl, has_a, rfl, rfl⟩, ?_⟩; conv => whnf)
    (refine call_auto hP (hcf) ?_; conv => whnf); (refine ⟨⟨rfl, rfl, rfl, has_a, rfl, rfl⟩, ?_⟩; conv => whnf)
    (refine call_auto hP (hc2) ?_; conv => whnf); refine ⟨⟨rfl, rfl, rfl, ?_, rfl, rfl⟩, ?_⟩
    · exact ⟨⟨rfl, Nat.le_refl _, fun i hi => by rcases (show i = 0 ∨ i = 1 by omega) with rfl | rfl <;> rfl⟩, trivial⟩
    cases hl : anyZ (fun x => decide (l = x)) loc3 3 with
    | false =>
      rw [hl] at hc3
      conv => whnf
      (refine call_auto hP (hc3) ?_; conv => whnf); refine ⟨⟨rfl, rfl, rfl, ?_, rfl, rfl⟩, ?_⟩
      · exact ⟨⟨rfl, Nat.le_refl _, fun i hi => by rcases (show i = 0 ∨ i = 1 ∨ i = 2 by omega) with rfl | rfl | rfl <;> rfl⟩, trivial⟩
      conv => whnf
      (refine fin_auto ?_; conv => whnf); exact ⟨rfl, rfl, rfl, rfl, has_a, rfl⟩
    | true =>
      rw [hl] at hc3
      conv => whnf
      (refine call_auto hP (hc3) ?_; conv => whnf); refine ⟨⟨rfl, rfl, rfl, ?_, rfl, rfl⟩, ?_⟩
      · exact ⟨⟨rfl, Nat.le_refl _, fun i hi => by rcases (show i = 0 ∨ i = 1 ∨ i = 2 by omega) with rfl | rfl | rfl <;> rfl⟩, trivial⟩
      conv => whnf
      refine dsplit (fun h1 => ?_) (fun h1 => ?_)
      · conv => whnf
        (refine fin_auto ?_; conv => whnf); exact ⟨rfl, rfl, rfl, rfl, has_a, rfl⟩
      · conv => whnf
        refine dsplit (fun h2 => ?_) (fun h2 => ?_)
        · conv => whnf
          (refine fin_auto ?_; conv => whnf); exact ⟨rfl, rfl, rfl, rfl, has_a, rfl⟩
        · exfalso
          rw [hg, hl] at hn
          rcases hn with hn | hn | hn | hn
          · cases hn
          · cases hn
          · exact h1 hn
          · exact h2 hn
end Go.Proofs.YtlkfolopbehikaaGreat
set_option linter.unusedSimpArgs false
set_option linter.unusedVariables false
namespace Go.Proofs.YtlkfolopbehikaaGreat
open Go Go.Sx

theorem any_const {v : Int} (hv : badH v = false) : ∀ n, anyZ badH (fun _ => v) n = false
  | 0 => rfl
  | n + 1 => by rw [anyZ, any_const hv n, hv]; rfl
theorem place_step {h : Nat → Int} {i c : Nat} {x : Nat} (hc : h i = (c : Int)) (hx : x = cnt h i c) (t : Nat) : mrgL (t = i) (setMany (placeI h i t) 0 [.int .i64 (c : Int), .int .i64 (x : Int), .nilFunc, .int .u32 0]) (placeI h i t) = placeI h (i + 1) t := by
  rw [mrgL_eq _ _ _ (by rw [setMany_length])]
  by_cases e : t = i
  · subst e
    rw [if_pos rfl]
    simp only [placeI, placeE, setMany, setL, Nat.lt_succ_self, if_true, hc, hx, Int.toNat_natCast]
  · rw [if_neg e]
    simp only [placeI, placeE, show (t < i + 1) ↔ (t < i) from by omega]
theorem cnt_step {h : Nat → Int} {i c : Nat} {cn : Nat → Nat} (hc : h i = (c : Int)) (hn : ∀ j, cn j = cnt h i j) (j : Nat) : (if j = c then cn j + 1 else cn j) = cnt h (i + 1) j := by
  simp only [cnt, hn, hc]
  by_cases e : j = c
  · subst e; simp
  · rw [if_neg e, if_neg (by omega), Nat.add_zero]
set_option maxRecDepth 8000 in
set_option maxHeartbeats 4000000 in
theorem cohNew_ok (th : Int) (M : Nat) (hs ws h : Nat → Int) (m g l : Nat) (bu : Int) (hM : M ≤ 5000) (hm : 1 ≤ m ∧ m ≤ 64) (hb : anyZ badH h m = false) (hg : g = 1 ∨ g = 4) (hl : isIn l) (hbu : 1 ≤ bu ∧ bu ≤ 1000) :
    FSpec Tryz.prog 111 [(0, some (planP th M hs ws)), (1, some (.ro 1 m (numE h)))] 2 [.l (.p 0 0 0 0), .l (.s 1 1 0 m 0), .l (.v (.int .i64 g)), .l (.v (.int .i64 l)), .l (.v (.int .i64 bu))] fun x h' k =>
      x = .t [.l (.p 2 0 0 0), .l (.v (.int .i64 0))] ∧ k = 3 ∧ h' = [(0, some (planP th (l3 l (cnt h m) (p0F M g hs ws) 8).1 (l3 l (cnt h m) (p0F M g hs ws) 8).2.1 (l3 l (cnt h m) (p0F M g hs ws) 8).2.2)),
        (2, some (cohP0 m M g l bu (cnt h m) (p0F M g hs ws) (placeI h m)))] := by
  have hse := seatNew_ok m false false (by omega)
  have hcf := containsf_spec 141 badH badCoh_spec h m (by omega)
  rw [hb] at hcf
  have hc2 := contains_spec (g : Int) gl2 2 (by omega)
  rw [show anyZ (fun x => decide ((g : Int) = x)) gl2 2 = true from by rcases hg with rfl | rfl <;> simp [anyZ, gl2]] at hc2
  have hc3 := contains_spec (l : Int) loc3 3 (by omega)
  rw [show anyZ (fun x => decide ((l : Int) = x)) loc3 3 = true from by rcases hl with rfl | rfl | rfl <;> simp [anyZ, loc3]] at hc3
  have hpl := planLen_spec th M hs ws
  have hgi : isIn g := by unfold isIn; omega
  refine spec_of_ev Tryz.func111 ic111_eq (rs := [.t 10, .t 11]) (by kernel_rfl) (by kernel_rfl) (by kernel_rfl) fun G hP hA => ?_
  unfold evF ic111
  conv => whnf
  (refine call_auto hP (hse) ?_; conv => whnf); (refine ⟨⟨rfl, rfl, rfl, has_a, rfl, rfl⟩, ?_⟩; conv => whnf)
  (refine call_auto hP (hcf) ?_; conv => whnf); (refine ⟨⟨rfl, rfl, rfl, has_a, rfl, rfl⟩, ?_⟩; conv => whnf)
  (refine call_auto hP (hc2) ?_; conv => whnf); refine ⟨⟨rfl, rfl, rfl, ?_, rfl, rfl⟩, ?_⟩
  · exact ⟨⟨rfl, Nat.le_refl _, fun i hi => by rcases (show i = 0 ∨ i = 1 by omega) with rfl | rfl <;> rfl⟩, trivial⟩
  conv => whnf
  (refine call_auto hP (hc3) ?_; conv => whnf); refine ⟨⟨rfl, rfl, rfl, ?_, rfl, rfl⟩, ?_⟩
  · exact ⟨⟨rfl, Nat.le_refl _, fun i hi => by rcases (show i = 0 ∨ i = 1 ∨ i = 2 by omega) with rfl | rfl | rfl <;> rfl⟩, trivial⟩
  conv => whnf
  refine dsplit (fun h1 => absurd h1 (by omega)) (fun _ => ?_)
  conv => whnf
  refine dsplit (fun h1 => absurd h1 (by omega)) (fun _ => ?_)
  conv => whnf
  (refine drawP_lazy (by rw [hP]; exact follows) 60 (by kernel_rfl) ?_; conv => whnf)
  repeat' (first | (refine And.intro (by first | omega | (simp [nadd_eq]; omega)) ?_; conv => whnf) | (refine arU32 (by omega) (by omega) ?_; conv => whnf) | (refine And.intro ?_ ?_ <;> (conv => whnf)))
  all_goals (refine callD_auto hP (hpl) ?_; conv => whnf); (refine ⟨⟨rfl, rfl, rfl, has_a, rfl, rfl⟩, ?_⟩; conv => whnf)
  repeat' (first | (refine And.intro (by first | omega | (simp [nadd_eq]; omega)) ?_; conv => whnf) | (refine arU32 (by omega) (by omega) ?_; conv => whnf) | (refine And.intro ?_ ?_ <;> (conv => whnf)))
  all_goals
    refine loop_auto (α := Nat) (ds := []) (N := 9) (fun i => [(62, sInt .i64 (i : Int)), (15, .o (.l (.s 8 1 0 i 0)))]) []
      (fun i => [(0, some (planP th (M + i) (snocF hs M (fun i => (i : Int)) i) (snocF ws M (fun _ => 0) i))), (8, some (.ar 1 i (numE fun j => (j : Int))))])
      (fun i => i ≤ 8) (fun i => 8 - i) 0 (Nat.zero_le _) ?_ fun i hi => ?_
    · conv => whnf
      refine Imp.trans (imp_nil 15 1 (numE fun j => (j : Int)) rfl) ?_
      (conv => whnf); (refine imp_auto hA ?_; conv => whnf); exact ⟨rfl, rfl, rfl, regs_a, has_a, rfl⟩
    · have hwi := word_spec th (M + i) (snocF hs M (fun i => (i : Int)) i) (snocF ws M (fun _ => 0) i) (i : Int) 0 (by omega)
      conv => whnf
      refine dsplit (fun h1 => ?_) (fun h1 => ?_)
      · replace h1 : (i : Int) < 8 := h1
        conv => whnf
        (refine call_auto hP (hwi) ?_; conv => whnf); (refine ⟨⟨rfl, rfl, rfl, has_a, rfl, rfl⟩, ?_⟩; conv => whnf)
        (repeat' (first | (refine And.intro (by (first | omega | assumption | (simp only [nadd_eq]; omega) | (simp [nadd_eq]; omega))) ?_; conv => whnf) | (refine arI64 (by omega) (by omega) ?_; conv => whnf) | (refine arU32 (by omega) (by omega) ?_; conv => whnf) | (refine arU8 (by omega) (by omega) ?_; conv => whnf)))
        refine ⟨i + 1, by omega, by omega, ?_⟩
        (conv => whnf); (refine imp_auto hA ?_; conv => whnf); refine ⟨rfl, rfl, rfl, regs_a, ?_, rfl⟩
        refine And.intro ?_ (And.intro (And.intro rfl (And.intro rfl fun j hj => snoc_rows (f := numE fun j => (j : Int)) (i := i) rfl j hj)) ?_)
        all_goals exact has_a
      replace h1 : ¬ (i : Int) < 8 := h1
      obtain rfl : i = 8 := by omega
      have hin0 := inner_ok g hgi th (M + 8) (snocF hs M (fun i => (i : Int)) 8) (snocF ws M (fun _ => 0) 8) (fun i => (i : Int)) 8 (by omega) (by omega) (by decide)
      generalize hp0 : (p0F M g hs ws) = p0
      have e1 : p0.1 = M + 8 + inN g 8 := by rw [← hp0]; rfl
      have e2 : inHs g (snocF hs M (fun i => (i : Int)) 8) (M + 8) (fun i => (i : Int)) 8 = p0.2.1 := by rw [← hp0]; rfl
      have e3 : inWs g (snocF ws M (fun _ => 0) 8) (M + 8) 8 = p0.2.2 := by rw [← hp0]; rfl
      rw [← e1, e2, e3] at hin0
      have e0 : p0.1 ≤ M + 26 := by rw [e1]; have := inN_le g 8; omega
      generalize hA1 : snocF hs M (fun i => (i : Int)) 8 = hs8 at *
      generalize hA2 : snocF ws M (fun _ => 0) 8 = ws8 at *
      conv => whnf
      (refine call_auto hP (hin0) ?_; conv => whnf); (refine ⟨⟨rfl, rfl, rfl, has_a, rfl, rfl⟩, ?_⟩; conv => whnf)
      refine loop_auto (α := Nat × (Nat → Nat)) (ds := []) (N := 18) (fun x => [(82, sInt .i64 (x.1 : Int))]) []
        (fun x => [(5, some (.ar 4 m (placeI h x.1))), (7, some (.st [.s 10 1 0 (x.2 0) 0, .s 11 1 0 (x.2 1) 0, .s 12 1 0 (x.2 2) 0, .s 13 1 0 (x.2 3) 0, .s 14 1 0 (x.2 4) 0, .s 15 1 0 (x.2 5) 0, .s 16 1 0 (x.2 6) 0, .s 17 1 0 (x.2 7) 0])), (10, some (.ar 1 (x.2 0) (fun _ => [.int .i64 0]))), (11, some (.ar 1 (x.2 1) (fun _ => [.int .i64 1]))), (12, some (.ar 1 (x.2 2) (fun _ => [.int .i64 2]))), (13, some (.ar 1 (x.2 3) (fun _ => [.int .i64 3]))), (14, some (.ar 1 (x.2 4) (fun _ => [.int .i64 4]))), (15, some (.ar 1 (x.2 5) (fun _ => [.int .i64 5]))), (16, some (.ar 1 (x.2 6) (fun _ => [.int .i64 6]))), (17, some (.ar 1 (x.2 7) (fun _ => [.int .i64 7])))])
        (fun x => x.1 ≤ m ∧ ∀ j, x.2 j = cnt h x.1 j) (fun x => m - x.1) (0, fun _ => 0) ⟨Nat.zero_le _, fun _ => rfl⟩ ?_ fun x hx => ?_
      · conv => whnf
        refine Imp.trans (imp_ghost ((GSpec.nilc 7 0 1 (fun _ => [.int .i64 0]) rfl rfl).trans ((GSpec.nilc 7 1 1 (fun _ => [.int .i64 1]) rfl rfl).trans ((GSpec.nilc 7 2 1 (fun _ => [.int .i64 2]) rfl rfl).trans ((GSpec.nilc 7 3 1 (fun _ => [.int .i64 3]) rfl rfl).trans ((GSpec.nilc 7 4 1 (fun _ => [.int .i64 4]) rfl rfl).trans ((GSpec.nilc 7 5 1 (fun _ => [.int .i64 5]) rfl rfl).trans ((GSpec.nilc 7 6 1 (fun _ => [.int .i64 6]) rfl rfl).trans (GSpec.nilc 7 7 1 (fun _ => [.int .i64 7]) rfl rfl))))))))) ?_
        (conv => whnf); (refine imp_auto hA ?_; conv => whnf); refine ⟨rfl, rfl, rfl, regs_a, ?_, rfl⟩
        all_goals exact has_a
      · obtain ⟨i, cn⟩ := x
        obtain ⟨hi, hcn⟩ := hx
        replace hi : i ≤ m := hi
        replace hcn : ∀ j, cn j = cnt h i j := hcn
        conv => whnf
        refine dsplit (fun h1 => ?_) (fun h1 => ?_)
        · replace h1 : (i : Int) < (m : Int) := h1
          have hbi : badH (h i) = false := anyZ_false.1 hb i (by omega)
          have hr : 0 ≤ h i ∧ h i < 8 := by unfold badH at hbi; simp at hbi; omega
          have hni : nadd 0 ((i : Nat) : Int).toNat = i := by simp [nadd_eq]
          have hsz : ∀ c, (cn c + 1) * 8 ≤ 140737488355328 := fun c => by have := cnt_le h i c; rw [hcn c]; omega
          rcases (show h i = 0 ∨ h i = 1 ∨ h i = 2 ∨ h i = 3 ∨ h i = 4 ∨ h i = 5 ∨ h i = 6 ∨ h i = 7 by omega) with hc | hc | hc | hc | hc | hc | hc | hc
          · conv => whnf
            (repeat' (first | (refine And.intro (by (first | omega | assumption | (simp only [nadd_eq]; omega) | (simp [nadd_eq]; omega))) ?_; conv => whnf) | (refine arI64 (by omega) (by omega) ?_; conv => whnf) | (refine arU32 (by omega) (by omega) ?_; conv => whnf) | (refine arU8 (by omega) (by omega) ?_; conv => whnf)))
            rw [hni, hc]
            conv => whnf
            (refine drawP_lazy (by rw [hP]; exact follows) 60 (by kernel_rfl) ?_; conv => whnf)
            repeat' (first | (refine And.intro (by first | omega | decide | exact ⟨rfl, Nat.le_of_ble_eq_true rfl, hsz _⟩ | (simp [nadd_eq]; omega)) ?_; conv => whnf) | (refine And.intro ?_ ?_ <;> (conv => whnf)))
            all_goals
              (repeat' (first | (refine And.intro (by first | omega | exact ⟨rfl, Nat.le_of_ble_eq_true rfl, hsz _⟩) ?_; conv => whnf) | (refine arI64 (by omega) (by omega) ?_; conv => whnf)))
              rw [hni]
              refine ⟨(i + 1, fun j => if j = 0 then cn j + 1 else cn j), ⟨show i + 1 ≤ m by omega, fun j => cnt_step (c := 0) hc hcn j⟩, show m - (i + 1) < m - i by omega, ?_⟩
              (conv => whnf); (refine imp_auto hA ?_; conv => whnf); refine ⟨rfl, rfl, rfl, regs_a, ?_, rfl⟩
              all_goals exact (by repeat' (first | exact trivial | exact rfl | (intro _ _; exact rfl) | (intro j hj; exact snoc_rows (f := fun _ => [.int .i64 _]) rfl j hj) | exact Nat.le_refl _ | exact Or.inl (Or.inl (And.intro (fun h => h) rfl)) | exact Or.inl rfl | (intro t ht; exact place_step hc (hcn _) t) | apply And.intro))
          · conv => whnf
            (repeat' (first | (refine And.intro (by (first | omega | assumption | (simp only [nadd_eq]; omega) | (simp [nadd_eq]; omega))) ?_; conv => whnf) | (refine arI64 (by omega) (by omega) ?_; conv => whnf) | (refine arU32 (by omega) (by omega) ?_; conv => whnf) | (refine arU8 (by omega) (by omega) ?_; conv => whnf)))
            rw [hni, hc]
            conv => whnf
            (refine drawP_lazy (by rw [hP]; exact follows) 60 (by kernel_rfl) ?_; conv => whnf)
            repeat' (first | (refine And.intro (by first | omega | decide | exact ⟨rfl, Nat.le_of_ble_eq_true rfl, hsz _⟩ | (simp [nadd_eq]; omega)) ?_; conv => whnf) | (refine And.intro ?_ ?_ <;> (conv => whnf)))
            all_goals
              (repeat' (first | (refine And.intro (by first | omega | exact ⟨rfl, Nat.le_of_ble_eq_true rfl, hsz _⟩) ?_; conv => whnf) | (refine arI64 (by omega) (by omega) ?_; conv => whnf)))
              rw [hni]
              refine ⟨(i + 1, fun j => if j = 1 then cn j + 1 else cn j), ⟨show i + 1 ≤ m by omega, fun j => cnt_step (c := 1) hc hcn j⟩, show m - (i + 1) < m - i by omega, ?_⟩
              (conv => whnf); (refine imp_auto hA ?_; conv => whnf); refine ⟨rfl, rfl, rfl, regs_a, ?_, rfl⟩
              all_goals exact (by repeat' (first | exact trivial | exact rfl | (intro _ _; exact rfl) | (intro j hj; exact snoc_rows (f := fun _ => [.int .i64 _]) rfl j hj) | exact Nat.le_refl _ | exact Or.inl (Or.inl (And.intro (fun h => h) rfl)) | exact Or.inl rfl | (intro t ht; exact place_step hc (hcn _) t) | apply And.intro))
          · conv => whnf
            (repeat' (first | (refine And.intro (by (first | omega | assumption | (simp only [nadd_eq]; omega) | (simp [nadd_eq]; omega))) ?_; conv => whnf) | (refine arI64 (by omega) (by omega) ?_; conv => whnf) | (refine arU32 (by omega) (by omega) ?_; conv => whnf) | (refine arU8 (by omega) (by omega) ?_; conv => whnf)))
            rw [hni, hc]
            conv => whnf
            (refine drawP_lazy (by rw [hP]; exact follows) 60 (by kernel_rfl) ?_; conv => whnf)
            repeat' (first | (refine And.intro (by first | omega | decide | exact ⟨rfl, Nat.le_of_ble_eq_true rfl, hsz _⟩ | (simp [nadd_eq]; omega)) ?_; conv => whnf) | (refine And.intro ?_ ?_ <;> (conv => whnf)))
            all_goals
              (repeat' (first | (refine And.intro (by first | omega | exact ⟨rfl, Nat.le_of_ble_eq_true rfl, hsz _⟩) ?_; conv => whnf) | (refine arI64 (by omega) (by omega) ?_; conv => whnf)))
              rw [hni]
              refine ⟨(i + 1, fun j => if j = 2 then cn j + 1 else cn j), ⟨show i + 1 ≤ m by omega, fun j => cnt_step (c := 2) hc hcn j⟩, show m - (i + 1) < m - i by omega, ?_⟩
              (conv => whnf); (refine imp_auto hA ?_; conv => whnf); refine ⟨rfl, rfl, rfl, regs_a, ?_, rfl⟩
              all_goals exact (by repeat' (first | exact trivial | exact rfl | (intro _ _; exact rfl) | (intro j hj; exact snoc_rows (f := fun _ => [.int .i64 _]) rfl j hj) | exact Nat.le_refl _ | exact Or.inl (Or.inl (And.intro (fun h => h) rfl)) | exact Or.inl rfl | (intro t ht; exact place_step hc (hcn _) t) | apply And.intro))
          · conv => whnf
            (repeat' (first | (refine And.intro (by (first | omega | assumption | (simp only [nadd_eq]; omega) | (simp [nadd_eq]; omega))) ?_; conv => whnf) | (refine arI64 (by omega) (by omega) ?_; conv => whnf) | (refine arU32 (by omega) (by omega) ?_; conv => whnf) | (refine arU8 (by omega) (by omega) ?_; conv => whnf)))
            rw [hni, hc]
            conv => whnf
            (refine drawP_lazy (by rw [hP]; exact follows) 60 (by kernel_rfl) ?_; conv => whnf)
            repeat' (first | (refine And.intro (by first | omega | decide | exact ⟨rfl, Nat.le_of_ble_eq_true rfl, hsz _⟩ | (simp [nadd_eq]; omega)) ?_; conv => whnf) | (refine And.intro ?_ ?_ <;> (conv => whnf)))
            all_goals
              (repeat' (first | (refine And.intro (by first | omega | exact ⟨rfl, Nat.le_of_ble_eq_true rfl, hsz _⟩) ?_; conv => whnf) | (refine arI64 (by omega) (by omega) ?_; conv => whnf)))
              rw [hni]
              refine ⟨(i + 1, fun j => if j = 3 then cn j + 1 else cn j), ⟨show i + 1 ≤ m by omega, fun j => cnt_step (c := 3) hc hcn j⟩, show m - (i + 1) < m - i by omega, ?_⟩
              (conv => whnf); (refine imp_auto hA ?_; conv => whnf); refine ⟨rfl, rfl, rfl, regs_a, ?_, rfl⟩
              all_goals exact (by repeat' (first | exact trivial | exact rfl | (intro _ _; exact rfl) | (intro j hj; exact snoc_rows (f := fun _ => [.int .i64 _]) rfl j hj) | exact Nat.le_refl _ | exact Or.inl (Or.inl (And.intro (fun h => h) rfl)) | exact Or.inl rfl | (intro t ht; exact place_step hc (hcn _) t) | apply And.intro))
          · conv => whnf
            (repeat' (first | (refine And.intro (by (first | omega | assumption | (simp only [nadd_eq]; omega) | (simp [nadd_eq]; omega))) ?_; conv => whnf) | (refine arI64 (by omega) (by omega) ?_; conv => whnf) | (refine arU32 (by omega) (by omega) ?_; conv => whnf) | (refine arU8 (by omega) (by omega) ?_; conv => whnf)))
            rw [hni, hc]
            conv => whnf
            (refine drawP_lazy (by rw [hP]; exact follows) 60 (by kernel_rfl) ?_; conv => whnf)
            repeat' (first | (refine And.intro (by first | omega | decide | exact ⟨rfl, Nat.le_of_ble_eq_true rfl, hsz _⟩ | (simp [nadd_eq]; omega)) ?_; conv => whnf) | (refine And.intro ?_ ?_ <;> (conv => whnf)))
            all_goals
              (repeat' (first | (refine And.intro (by first | omega | exact ⟨rfl, Nat.le_of_ble_eq_true rfl, hsz _⟩) ?_; conv => whnf) | (refine arI64 (by omega) (by omega) ?_; conv => whnf)))
              rw [hni]
              refine ⟨(i + 1, fun j => if j = 4 then cn j + 1 else cn j), ⟨show i + 1 ≤ m by omega, fun j => cnt_step (c := 4) hc hcn j⟩, show m - (i + 1) < m - i by omega, ?_⟩
              (conv => whnf); (refine imp_auto hA ?_; conv => whnf); refine ⟨rfl, rfl, rfl, regs_a, ?_, rfl⟩
              all_goals exact (by repeat' (first | exact trivial | exact rfl | (intro _ _; exact rfl) | (intro j hj; exact snoc_rows (f := fun _ => [.int .i64 _]) rfl j hj) | exact Nat.le_refl _ | exact Or.inl (Or.inl (And.intro (fun h => h) rfl)) | exact Or.inl rfl | (intro t ht; exact place_step hc (hcn _) t) | apply And.intro))
          · conv => whnf
            (repeat' (first | (refine And.intro (by (first | omega | assumption | (simp only [nadd_eq]; omega) | (simp [nadd_eq]; omega))) ?_; conv => whnf) | (refine arI64 (by omega) (by omega) ?_; conv => whnf) | (refine arU32 (by omega) (by omega) ?_; conv => whnf) | (refine arU8 (by omega) (by omega) ?_; conv => whnf)))
            rw [hni, hc]
            conv => whnf
            (refine drawP_lazy (by rw [hP]; exact follows) 60 (by kernel_rfl) ?_; conv => whnf)
            repeat' (first | (refine And.intro (by first | omega | decide | exact ⟨rfl, Nat.le_of_ble_eq_true rfl, hsz _⟩ | (simp [nadd_eq]; omega)) ?_; conv => whnf) | (refine And.intro ?_ ?_ <;> (conv => whnf)))
            all_goals
              (repeat' (first | (refine And.intro (by first | omega | exact ⟨rfl, Nat.le_of_ble_eq_true rfl, hsz _⟩) ?_; conv => whnf) | (refine arI64 (by omega) (by omega) ?_; conv => whnf)))
              rw [hni]
              refine ⟨(i + 1, fun j => if j = 5 then cn j + 1 else cn j), ⟨show i + 1 ≤ m by omega, fun j => cnt_step (c := 5) hc hcn j⟩, show m - (i + 1) < m - i by omega, ?_⟩
              (conv => whnf); (refine imp_auto hA ?_; conv => whnf); refine ⟨rfl, rfl, rfl, regs_a, ?_, rfl⟩
              all_goals exact (by repeat' (first | exact trivial | exact rfl | (intro _ _; exact rfl) | (intro j hj; exact snoc_rows (f := fun _ => [.int .i64 _]) rfl j hj) | exact Nat.le_refl _ | exact Or.inl (Or.inl (And.intro (fun h => h) rfl)) | exact Or.inl rfl | (intro t ht; exact place_step hc (hcn _) t) | apply And.intro))
          · conv => whnf
            (repeat' (first | (refine And.intro (by (first | omega | assumption | (simp only [nadd_eq]; omega) | (simp [nadd_eq]; omega))) ?_; conv => whnf) | (refine arI64 (by omega) (by omega) ?_; conv => whnf) | (refine arU32 (by omega) (by omega) ?_; conv => whnf) | (refine arU8 (by omega) (by omega) ?_; conv => whnf)))
            rw [hni, hc]
            conv => whnf
            (refine drawP_lazy (by rw [hP]; exact follows) 60 (by kernel_rfl) ?_; conv => whnf)
            repeat' (first | (refine And.intro (by first | omega | decide | exact ⟨rfl, Nat.le_of_ble_eq_true rfl, hsz _⟩ | (simp [nadd_eq]; omega)) ?_; conv => whnf) | (refine And.intro ?_ ?_ <;> (conv => whnf)))
            all_goals
              (repeat' (first | (refine And.intro (by first | omega | exact ⟨rfl, Nat.le_of_ble_eq_true rfl, hsz _⟩) ?_; conv => whnf) | (refine arI64 (by omega) (by omega) ?_; conv => whnf)))
              rw [hni]
              refine ⟨(i + 1, fun j => if j = 6 then cn j + 1 else cn j), ⟨show i + 1 ≤ m by omega, fun j => cnt_step (c := 6) hc hcn j⟩, show m - (i + 1) < m - i by omega, ?_⟩
              (conv => whnf); (refine imp_auto hA ?_; conv => whnf); refine ⟨rfl, rfl, rfl, regs_a, ?_, rfl⟩
              all_goals exact (by repeat' (first | exact trivial | exact rfl | (intro _ _; exact rfl) | (intro j hj; exact snoc_rows (f := fun _ => [.int .i64 _]) rfl j hj) | exact Nat.le_refl _ | exact Or.inl (Or.inl (And.intro (fun h => h) rfl)) | exact Or.inl rfl | (intro t ht; exact place_step hc (hcn _) t) | apply And.intro))
          · conv => whnf
            (repeat' (first | (refine And.intro (by (first | omega | assumption | (simp only [nadd_eq]; omega) | (simp [nadd_eq]; omega))) ?_; conv => whnf) | (refine arI64 (by omega) (by omega) ?_; conv => whnf) | (refine arU32 (by omega) (by omega) ?_; conv => whnf) | (refine arU8 (by omega) (by omega) ?_; conv => whnf)))
            rw [hni, hc]
            conv => whnf
            (refine drawP_lazy (by rw [hP]; exact follows) 60 (by kernel_rfl) ?_; conv => whnf)
            repeat' (first | (refine And.intro (by first | omega | decide | exact ⟨rfl, Nat.le_of_ble_eq_true rfl, hsz _⟩ | (simp [nadd_eq]; omega)) ?_; conv => whnf) | (refine And.intro ?_ ?_ <;> (conv => whnf)))
            all_goals
              (repeat' (first | (refine And.intro (by first | omega | exact ⟨rfl, Nat.le_of_ble_eq_true rfl, hsz _⟩) ?_; conv => whnf) | (refine arI64 (by omega) (by omega) ?_; conv => whnf)))
              rw [hni]
              refine ⟨(i + 1, fun j => if j = 7 then cn j + 1 else cn j), ⟨show i + 1 ≤ m by omega, fun j => cnt_step (c := 7) hc hcn j⟩, show m - (i + 1) < m - i by omega, ?_⟩
              (conv => whnf); (refine imp_auto hA ?_; conv => whnf); refine ⟨rfl, rfl, rfl, regs_a, ?_, rfl⟩
              all_goals exact (by repeat' (first | exact trivial | exact rfl | (intro _ _; exact rfl) | (intro j hj; exact snoc_rows (f := fun _ => [.int .i64 _]) rfl j hj) | exact Nat.le_refl _ | exact Or.inl (Or.inl (And.intro (fun h => h) rfl)) | exact Or.inl rfl | (intro t ht; exact place_step hc (hcn _) t) | apply And.intro))
        · replace h1 : ¬ (i : Int) < (m : Int) := h1
          obtain rfl : m = i := by omega
          have hcn64 : ∀ j, cn j ≤ 64 := fun j => by rw [hcn j]; exact Nat.le_trans (cnt_le h m j) hm.2
          obtain rfl : cn = cnt h m := funext hcn
          generalize hcm : cnt h m = cn at *
          conv => whnf
          refine loop_auto (α := Nat) (ds := []) (N := 26) (fun c => [(109, sInt .i64 (c : Int))]) []
            (fun c => [(0, some (planP th (l3 l cn p0 c).1 (l3 l cn p0 c).2.1 (l3 l cn p0 c).2.2)), (6, some (.st [.p 2 0 0 0, .v (.pointer none), .v (.int .i64 M), .v (.int .u32 bu), .i (inT g) 9, .io (lb cn c 0) (inT l) 18, .io (lb cn c 1) (inT l) 19, .io (lb cn c 2) (inT l) 20, .io (lb cn c 3) (inT l) 21, .io (lb cn c 4) (inT l) 22, .io (lb cn c 5) (inT l) 23, .io (lb cn c 6) (inT l) 24, .io (lb cn c 7) (inT l) 25, .s 5 4 0 m 0])), (18, some (.ob [] (OptR (lb cn c 0) (inR0 l (cn 0) (l3 l cn p0 0).1)))), (19, some (.ob [] (OptR (lb cn c 1) (inR0 l (cn 1) (l3 l cn p0 1).1)))), (20, some (.ob [] (OptR (lb cn c 2) (inR0 l (cn 2) (l3 l cn p0 2).1)))), (21, some (.ob [] (OptR (lb cn c 3) (inR0 l (cn 3) (l3 l cn p0 3).1)))), (22, some (.ob [] (OptR (lb cn c 4) (inR0 l (cn 4) (l3 l cn p0 4).1)))), (23, some (.ob [] (OptR (lb cn c 5) (inR0 l (cn 5) (l3 l cn p0 5).1)))), (24, some (.ob [] (OptR (lb cn c 6) (inR0 l (cn 6) (l3 l cn p0 6).1)))), (25, some (.ob [] (OptR (lb cn c 7) (inR0 l (cn 7) (l3 l cn p0 7).1))))])
            (fun c => c ≤ 8) (fun c => 8 - c) 0 (Nat.zero_le _) ?_ fun c hc8 => ?_
          · conv => whnf
            refine Imp.trans (imp_ghost ((GSpec.nothing (OptR false (inR0 l (cn 0) (l3 l cn p0 0).1)) (optR_stable (inR0_stable _ _ _) _) (optR_none _)).trans ((GSpec.nothing (OptR false (inR0 l (cn 1) (l3 l cn p0 1).1)) (optR_stable (inR0_stable _ _ _) _) (optR_none _)).trans ((GSpec.nothing (OptR false (inR0 l (cn 2) (l3 l cn p0 2).1)) (optR_stable (inR0_stable _ _ _) _) (optR_none _)).trans ((GSpec.nothing (OptR false (inR0 l (cn 3) (l3 l cn p0 3).1)) (optR_stable (inR0_stable _ _ _) _) (optR_none _)).trans ((GSpec.nothing (OptR false (inR0 l (cn 4) (l3 l cn p0 4).1)) (optR_stable (inR0_stable _ _ _) _) (optR_none _)).trans ((GSpec.nothing (OptR false (inR0 l (cn 5) (l3 l cn p0 5).1)) (optR_stable (inR0_stable _ _ _) _) (optR_none _)).trans ((GSpec.nothing (OptR false (inR0 l (cn 6) (l3 l cn p0 6).1)) (optR_stable (inR0_stable _ _ _) _) (optR_none _)).trans ((GSpec.nothing (OptR false (inR0 l (cn 7) (l3 l cn p0 7).1)) (optR_stable (inR0_stable _ _ _) _) (optR_none _)).trans ((GSpec.cell 6 5 (.io false (inT l) 18) (x := .v .nilIface) rfl rfl (fun _ => rfl) (fun _ _ => (Nat.le_of_ble_eq_true rfl : 19 ≤ 26))).trans ((GSpec.cell 6 6 (.io false (inT l) 19) (x := .v .nilIface) rfl rfl (fun _ => rfl) (fun _ _ => (Nat.le_of_ble_eq_true rfl : 20 ≤ 26))).trans ((GSpec.cell 6 7 (.io false (inT l) 20) (x := .v .nilIface) rfl rfl (fun _ => rfl) (fun _ _ => (Nat.le_of_ble_eq_true rfl : 21 ≤ 26))).trans ((GSpec.cell 6 8 (.io false (inT l) 21) (x := .v .nilIface) rfl rfl (fun _ => rfl) (fun _ _ => (Nat.le_of_ble_eq_true rfl : 22 ≤ 26))).trans ((GSpec.cell 6 9 (.io false (inT l) 22) (x := .v .nilIface) rfl rfl (fun _ => rfl) (fun _ _ => (Nat.le_of_ble_eq_true rfl : 23 ≤ 26))).trans ((GSpec.cell 6 10 (.io false (inT l) 23) (x := .v .nilIface) rfl rfl (fun _ => rfl) (fun _ _ => (Nat.le_of_ble_eq_true rfl : 24 ≤ 26))).trans ((GSpec.cell 6 11 (.io false (inT l) 24) (x := .v .nilIface) rfl rfl (fun _ => rfl) (fun _ _ => (Nat.le_of_ble_eq_true rfl : 25 ≤ 26))).trans (GSpec.cell 6 12 (.io false (inT l) 25) (x := .v .nilIface) rfl rfl (fun _ => rfl) (fun _ _ => (Nat.le_of_ble_eq_true rfl : 26 ≤ 26))))))))))))))))))) ?_
            refine imp_intro hA [0, 1, 2, 3, 4, 5, 6, 7, 8, 9, 10, 11, 12, 13, 14, 15, 16, 17, 18, 19, 20, 21, 22, 23, 24, 25] rfl rfl rfl regs_a ?_ rfl
            exact has_a
          rcases (show c = 0 ∨ c = 1 ∨ c = 2 ∨ c = 3 ∨ c = 4 ∨ c = 5 ∨ c = 6 ∨ c = 7 ∨ c = 8 by omega) with rfl | rfl | rfl | rfl | rfl | rfl | rfl | rfl | rfl
          · have hin := inner_ok l hl th (l3 l cn p0 0).1 (l3 l cn p0 0).2.1 (l3 l cn p0 0).2.2 (fun _ => 0) (cn 0)
            have hMc := l3_le (l := l) (p0 := p0) hcn64 0
            cases hb : Nat.blt 0 (cn 0) with
            | true =>
              have hb1 : 0 < cn 0 := Nat.le_of_ble_eq_true hb
              have hs3 := l3_yes (l := l) (p0 := p0) hb
              specialize hin (by omega) ⟨hb1, hcn64 0⟩ (any_const (by decide) _)
              conv => whnf
              (refine join_plain ?_; conv => whnf)
              refine esc_index (m := 8) (e := 22) (by rw [hP]; kernel_rfl) (by rw [hP]; kernel_rfl) (by rw [hP]; kernel_rfl) rfl (c := 0) rfl (by decide) rfl ?_
              conv => whnf
              refine dsplit (fun h1 => ?_) (fun h1 => absurd (show (0 : Int) < ((cn 0 : Nat) : Int) by omega) h1)
              conv => whnf
              (refine drawP_lazy (by rw [hP]; exact follows) 60 (by kernel_rfl) ?_; conv => whnf)
              repeat' (first | (refine And.intro (by first | omega | decide | (simp [nadd_eq]; omega)) ?_; conv => whnf) | (refine And.intro ?_ ?_ <;> (conv => whnf)))
              all_goals (refine callD_auto hP (hin) ?_; conv => whnf); (refine ⟨⟨rfl, rfl, rfl, has_a, rfl, rfl⟩, ?_⟩; conv => whnf)
              repeat' (first | (refine And.intro (by first | omega | decide | (simp [nadd_eq]; omega)) ?_; conv => whnf) | (refine And.intro ?_ ?_ <;> (conv => whnf)))
              all_goals
                (repeat' (first | (refine And.intro (by (first | omega | assumption | (simp only [nadd_eq]; omega) | (simp [nadd_eq]; omega))) ?_; conv => whnf) | (refine arI64 (by omega) (by omega) ?_; conv => whnf) | (refine arU32 (by omega) (by omega) ?_; conv => whnf) | (refine arU8 (by omega) (by omega) ?_; conv => whnf)))
                refine ⟨1, by omega, by omega, ?_⟩
                conv => whnf
                refine Imp.trans (imp_ghost (GSpec.cell 6 5 (.io (Nat.blt 0 (cn 0)) (inT l) 26) rfl rfl (fun _ => by rw [hb]; rfl) (fun _ hh => hh))) ?_
                refine imp_intro hA [0, 1, 2, 3, 4, 5, 6, 7, 8, 9, 10, 11, 12, 13, 14, 15, 16, 17, 26, 19, 20, 21, 22, 23, 24, 25] rfl rfl rfl regs_a ?_ rfl
                refine ⟨⟨rfl, .inl (by first | (rw [hs3]; done) | (rw [hs3]; rfl))⟩, rfl, ⟨rfl, .inr ⟨optR_stable (inR0_stable _ _ _), fun ls lc F w hh => optR_of hb hh⟩⟩, ⟨rfl, .inl rfl⟩, ⟨rfl, .inl rfl⟩, ⟨rfl, .inl rfl⟩, ⟨rfl, .inl rfl⟩, ⟨rfl, .inl rfl⟩, ⟨rfl, .inl rfl⟩, ⟨rfl, .inl rfl⟩, has_a⟩
            | false =>
              have hb1 : ¬ 0 < cn 0 := fun hh => by have h2 : Nat.blt 0 (cn 0) = true := Nat.ble_eq_true_of_le hh; rw [h2] at hb; cases hb
              have hs3 := l3_no (l := l) (p0 := p0) hb
              conv => whnf
              (refine join_plain ?_; conv => whnf)
              refine esc_index (m := 8) (e := 22) (by rw [hP]; kernel_rfl) (by rw [hP]; kernel_rfl) (by rw [hP]; kernel_rfl) rfl (c := 0) rfl (by decide) rfl ?_
              conv => whnf
              refine dsplit (fun h1 => absurd (show (0 : Int) < ((cn 0 : Nat) : Int) from h1) (by omega)) (fun h1 => ?_)
              conv => whnf
              (repeat' (first | (refine And.intro (by (first | omega | assumption | (simp only [nadd_eq]; omega) | (simp [nadd_eq]; omega))) ?_; conv => whnf) | (refine arI64 (by omega) (by omega) ?_; conv => whnf) | (refine arU32 (by omega) (by omega) ?_; conv => whnf) | (refine arU8 (by omega) (by omega) ?_; conv => whnf)))
              refine ⟨1, by omega, by omega, ?_⟩
              conv => whnf
              refine Imp.trans (imp_ghost (GSpec.cell 6 5 (.io (Nat.blt 0 (cn 0)) (inT l) 18) rfl rfl (fun _ => by rw [hb]; rfl) (fun _ hh => hh))) ?_
              refine imp_intro hA [0, 1, 2, 3, 4, 5, 6, 7, 8, 9, 10, 11, 12, 13, 14, 15, 16, 17, 18, 19, 20, 21, 22, 23, 24, 25] rfl rfl rfl regs_a ?_ rfl
              refine ⟨⟨rfl, .inl (by first | (rw [hs3]; done) | (rw [hs3]; rfl))⟩, rfl, ⟨rfl, .inr ⟨optR_stable (inR0_stable _ _ _), fun ls lc F w hh => optR_off hb hh⟩⟩, ⟨rfl, .inl rfl⟩, ⟨rfl, .inl rfl⟩, ⟨rfl, .inl rfl⟩, ⟨rfl, .inl rfl⟩, ⟨rfl, .inl rfl⟩, ⟨rfl, .inl rfl⟩, ⟨rfl, .inl rfl⟩, has_a⟩
          · have hin := inner_ok l hl th (l3 l cn p0 1).1 (l3 l cn p0 1).2.1 (l3 l cn p0 1).2.2 (fun _ => 1) (cn 1)
            have hMc := l3_le (l := l) (p0 := p0) hcn64 1
            cases hb : Nat.blt 0 (cn 1) with
            | true =>
              have hb1 : 0 < cn 1 := Nat.le_of_ble_eq_true hb
              have hs3 := l3_yes (l := l) (p0 := p0) hb
              specialize hin (by omega) ⟨hb1, hcn64 1⟩ (any_const (by decide) _)
              conv => whnf
              (refine join_plain ?_; conv => whnf)
              refine esc_index (m := 8) (e := 22) (by rw [hP]; kernel_rfl) (by rw [hP]; kernel_rfl) (by rw [hP]; kernel_rfl) rfl (c := 1) rfl (by decide) rfl ?_
              conv => whnf
              refine dsplit (fun h1 => ?_) (fun h1 => absurd (show (0 : Int) < ((cn 1 : Nat) : Int) by omega) h1)
              conv => whnf
              (refine drawP_lazy (by rw [hP]; exact follows) 60 (by kernel_rfl) ?_; conv => whnf)
              repeat' (first | (refine And.intro (by first | omega | decide | (simp [nadd_eq]; omega)) ?_; conv => whnf) | (refine And.intro ?_ ?_ <;> (conv => whnf)))
              all_goals (refine callD_auto hP (hin) ?_; conv => whnf); (refine ⟨⟨rfl, rfl, rfl, has_a, rfl, rfl⟩, ?_⟩; conv => whnf)
              repeat' (first | (refine And.intro (by first | omega | decide | (simp [nadd_eq]; omega)) ?_; conv => whnf) | (refine And.intro ?_ ?_ <;> (conv => whnf)))
              all_goals
                (repeat' (first | (refine And.intro (by (first | omega | assumption | (simp only [nadd_eq]; omega) | (simp [nadd_eq]; omega))) ?_; conv => whnf) | (refine arI64 (by omega) (by omega) ?_; conv => whnf) | (refine arU32 (by omega) (by omega) ?_; conv => whnf) | (refine arU8 (by omega) (by omega) ?_; conv => whnf)))
                refine ⟨2, by omega, by omega, ?_⟩
                conv => whnf
                refine Imp.trans (imp_ghost (GSpec.cell 6 6 (.io (Nat.blt 0 (cn 1)) (inT l) 26) rfl rfl (fun _ => by rw [hb]; rfl) (fun _ hh => hh))) ?_
                refine imp_intro hA [0, 1, 2, 3, 4, 5, 6, 7, 8, 9, 10, 11, 12, 13, 14, 15, 16, 17, 18, 26, 20, 21, 22, 23, 24, 25] rfl rfl rfl regs_a ?_ rfl
                refine ⟨⟨rfl, .inl (by first | (rw [hs3]; done) | (rw [hs3]; rfl))⟩, rfl, ⟨rfl, .inl rfl⟩, ⟨rfl, .inr ⟨optR_stable (inR0_stable _ _ _), fun ls lc F w hh => optR_of hb hh⟩⟩, ⟨rfl, .inl rfl⟩, ⟨rfl, .inl rfl⟩, ⟨rfl, .inl rfl⟩, ⟨rfl, .inl rfl⟩, ⟨rfl, .inl rfl⟩, ⟨rfl, .inl rfl⟩, has_a⟩
            | false =>
              have hb1 : ¬ 0 < cn 1 := fun hh => by have h2 : Nat.blt 0 (cn 1) = true := Nat.ble_eq_true_of_le hh; rw [h2] at hb; cases hb
              have hs3 := l3_no (l := l) (p0 := p0) hb
              conv => whnf
              (refine join_plain ?_; conv => whnf)
              refine esc_index (m := 8) (e := 22) (by rw [hP]; kernel_rfl) (by rw [hP]; kernel_rfl) (by rw [hP]; kernel_rfl) rfl (c := 1) rfl (by decide) rfl ?_
              conv => whnf
              refine dsplit (fun h1 => absurd (show (0 : Int) < ((cn 1 : Nat) : Int) from h1) (by omega)) (fun h1 => ?_)
              conv => whnf
              (repeat' (first | (refine And.intro (by (first | omega | assumption | (simp only [nadd_eq]; omega) | (simp [nadd_eq]; omega))) ?_; conv => whnf) | (refine arI64 (by omega) (by omega) ?_; conv => whnf) | (refine arU32 (by omega) (by omega) ?_; conv => whnf) | (refine arU8 (by omega) (by omega) ?_; conv => whnf)))
              refine ⟨2, by omega, by omega, ?_⟩
              conv => whnf
              refine Imp.trans (imp_ghost (GSpec.cell 6 6 (.io (Nat.blt 0 (cn 1)) (inT l) 19) rfl rfl (fun _ => by rw [hb]; rfl) (fun _ hh => hh))) ?_
              refine imp_intro hA [0, 1, 2, 3, 4, 5, 6, 7, 8, 9, 10, 11, 12, 13, 14, 15, 16, 17, 18, 19, 20, 21, 22, 23, 24, 25] rfl rfl rfl regs_a ?_ rfl
              refine ⟨⟨rfl, .inl (by first | (rw [hs3]; done) | (rw [hs3]; rfl))⟩, rfl, ⟨rfl, .inl rfl⟩, ⟨rfl, .inr ⟨optR_stable (inR0_stable _ _ _), fun ls lc F w hh => optR_off hb hh⟩⟩, ⟨rfl, .inl rfl⟩, ⟨rfl, .inl rfl⟩, ⟨rfl, .inl rfl⟩, ⟨rfl, .inl rfl⟩, ⟨rfl, .inl rfl⟩, ⟨rfl, .inl rfl⟩, has_a⟩
          · have hin := inner_ok l hl th (l3 l cn p0 2).1 (l3 l cn p0 2).2.1 (l3 l cn p0 2).2.2 (fun _ => 2) (cn 2)
            have hMc := l3_le (l := l) (p0 := p0) hcn64 2
            cases hb : Nat.blt 0 (cn 2) with
            | true =>
              have hb1 : 0 < cn 2 := Nat.le_of_ble_eq_true hb
              have hs3 := l3_yes (l := l) (p0 := p0) hb
              specialize hin (by omega) ⟨hb1, hcn64 2⟩ (any_const (by decide) _)
              conv => whnf
              (refine join_plain ?_; conv => whnf)
              refine esc_index (m := 8) (e := 22) (by rw [hP]; kernel_rfl) (by rw [hP]; kernel_rfl) (by rw [hP]; kernel_rfl) rfl (c := 2) rfl (by decide) rfl ?_
              conv => whnf
              refine dsplit (fun h1 => ?_) (fun h1 => absurd (show (0 : Int) < ((cn 2 : Nat) : Int) by omega) h1)
              conv => whnf
              (refine drawP_lazy (by rw [hP]; exact follows) 60 (by kernel_rfl) ?_; conv => whnf)
              repeat' (first | (refine And.intro (by first | omega | decide | (simp [nadd_eq]; omega)) ?_; conv => whnf) | (refine And.intro ?_ ?_ <;> (conv => whnf)))
              all_goals (refine callD_auto hP (hin) ?_; conv => whnf); (refine ⟨⟨rfl, rfl, rfl, has_a, rfl, rfl⟩, ?_⟩; conv => whnf)
              repeat' (first | (refine And.intro (by first | omega | decide | (simp [nadd_eq]; omega)) ?_; conv => whnf) | (refine And.intro ?_ ?_ <;> (conv => whnf)))
              all_goals
                (repeat' (first | (refine And.intro (by (first | omega | assumption | (simp only [nadd_eq]; omega) | (simp [nadd_eq]; omega))) ?_; conv => whnf) | (refine arI64 (by omega) (by omega) ?_; conv => whnf) | (refine arU32 (by omega) (by omega) ?_; conv => whnf) | (refine arU8 (by omega) (by omega) ?_; conv => whnf)))
                refine ⟨3, by omega, by omega, ?_⟩
                conv => whnf
                refine Imp.trans (imp_ghost (GSpec.cell 6 7 (.io (Nat.blt 0 (cn 2)) (inT l) 26) rfl rfl (fun _ => by rw [hb]; rfl) (fun _ hh => hh))) ?_
                refine imp_intro hA [0, 1, 2, 3, 4, 5, 6, 7, 8, 9, 10, 11, 12, 13, 14, 15, 16, 17, 18, 19, 26, 21, 22, 23, 24, 25] rfl rfl rfl regs_a ?_ rfl
                refine ⟨⟨rfl, .inl (by first | (rw [hs3]; done) | (rw [hs3]; rfl))⟩, rfl, ⟨rfl, .inl rfl⟩, ⟨rfl, .inl rfl⟩, ⟨rfl, .inr ⟨optR_stable (inR0_stable _ _ _), fun ls lc F w hh => optR_of hb hh⟩⟩, ⟨rfl, .inl rfl⟩, ⟨rfl, .inl rfl⟩, ⟨rfl, .inl rfl⟩, ⟨rfl, .inl rfl⟩, ⟨rfl, .inl rfl⟩, has_a⟩
            | false =>
              have hb1 : ¬ 0 < cn 2 := fun hh => by have h2 : Nat.blt 0 (cn 2) = true := Nat.ble_eq_true_of_le hh; rw [h2] at hb; cases hb
              have hs3 := l3_no (l := l) (p0 := p0) hb
              conv => whnf
              (refine join_plain ?_; conv => whnf)
              refine esc_index (m := 8) (e := 22) (by rw [hP]; kernel_rfl) (by rw [hP]; kernel_rfl) (by rw [hP]; kernel_rfl) rfl (c := 2) rfl (by decide) rfl ?_
              conv => whnf
              refine dsplit (fun h1 => absurd (show (0 : Int) < ((cn 2 : Nat) : Int) from h1) (by omega)) (fun h1 => ?_)
              conv => whnf
              (repeat' (first | (refine And.intro (by (first | omega | assumption | (simp only [nadd_eq]; omega) | (simp [nadd_eq]; omega))) ?_; conv => whnf) | (refine arI64 (by omega) (by omega) ?_; conv => whnf) | (refine arU32 (by omega) (by omega) ?_; conv => whnf) | (refine arU8 (by omega) (by omega) ?_; conv => whnf)))
              refine ⟨3, by omega, by omega, ?_⟩
              conv => whnf
              refine Imp.trans (imp_ghost (GSpec.cell 6 7 (.io (Nat.blt 0 (cn 2)) (inT l) 20) rfl rfl (fun _ => by rw [hb]; rfl) (fun _ hh => hh))) ?_
              refine imp_intro hA [0, 1, 2, 3, 4, 5, 6, 7, 8, 9, 10, 11, 12, 13, 14, 15, 16, 17, 18, 19, 20, 21, 22, 23, 24, 25] rfl rfl rfl regs_a ?_ rfl
              refine ⟨⟨rfl, .inl (by first | (rw [hs3]; done) | (rw [hs3]; rfl))⟩, rfl, ⟨rfl, .inl rfl⟩, ⟨rfl, .inl rfl⟩, ⟨rfl, .inr ⟨optR_stable (inR0_stable _ _ _), fun ls lc F w hh => optR_off hb hh⟩⟩, ⟨rfl, .inl rfl⟩, ⟨rfl, .inl rfl⟩, ⟨rfl, .inl rfl⟩, ⟨rfl, .inl rfl⟩, ⟨rfl, .inl rfl⟩, has_a⟩
          · have hin := inner_ok l hl th (l3 l cn p0 3).1 (l3 l cn p0 3).2.1 (l3 l cn p0 3).2.2 (fun _ => 3) (cn 3)
            have hMc := l3_le (l := l) (p0 := p0) hcn64 3
            cases hb : Nat.blt 0 (cn 3) with
            | true =>
              have hb1 : 0 < cn 3 := Nat.le_of_ble_eq_true hb
              have hs3 := l3_yes (l := l) (p0 := p0) hb
              specialize hin (by omega) ⟨hb1, hcn64 3⟩ (any_const (by decide) _)
              conv => whnf
              (refine join_plain ?_; conv => whnf)
              refine esc_index (m := 8) (e := 22) (by rw [hP]; kernel_rfl) (by rw [hP]; kernel_rfl) (by rw [hP]; kernel_rfl) rfl (c := 3) rfl (by decide) rfl ?_
              conv => whnf
              refine dsplit (fun h1 => ?_) (fun h1 => absurd (show (0 : Int) < ((cn 3 : Nat) : Int) by omega) h1)
              conv => whnf
              (refine drawP_lazy (by rw [hP]; exact follows) 60 (by kernel_rfl) ?_; conv => whnf)
              repeat' (first | (refine And.intro (by first | omega | decide | (simp [nadd_eq]; omega)) ?_; conv => whnf) | (refine And.intro ?_ ?_ <;> (conv => whnf)))
              all_goals (refine callD_auto hP (hin) ?_; conv => whnf); (refine ⟨⟨rfl, rfl, rfl, has_a, rfl, rfl⟩, ?_⟩; conv => whnf)
              repeat' (first | (refine And.intro (by first | omega | decide | (simp [nadd_eq]; omega)) ?_; conv => whnf) | (refine And.intro ?_ ?_ <;> (conv => whnf)))
              all_goals
                (repeat' (first | (refine And.intro (by (first | omega | assumption | (simp only [nadd_eq]; omega) | (simp [nadd_eq]; omega))) ?_; conv => whnf) | (refine arI64 (by omega) (by omega) ?_; conv => whnf) | (refine arU32 (by omega) (by omega) ?_; conv => whnf) | (refine arU8 (by omega) (by omega) ?_; conv => whnf)))
                refine ⟨4, by omega, by omega, ?_⟩
                conv => whnf
                refine Imp.trans (imp_ghost (GSpec.cell 6 8 (.io (Nat.blt 0 (cn 3)) (inT l) 26) rfl rfl (fun _ => by rw [hb]; rfl) (fun _ hh => hh))) ?_
                refine imp_intro hA [0, 1, 2, 3, 4, 5, 6, 7, 8, 9, 10, 11, 12, 13, 14, 15, 16, 17, 18, 19, 20, 26, 22, 23, 24, 25] rfl rfl rfl regs_a ?_ rfl
                refine ⟨⟨rfl, .inl (by first | (rw [hs3]; done) | (rw [hs3]; rfl))⟩, rfl, ⟨rfl, .inl rfl⟩, ⟨rfl, .inl rfl⟩, ⟨rfl, .inl rfl⟩, ⟨rfl, .inr ⟨optR_stable (inR0_stable _ _ _), fun ls lc F w hh => optR_of hb hh⟩⟩, ⟨rfl, .inl rfl⟩, ⟨rfl, .inl rfl⟩, ⟨rfl, .inl rfl⟩, ⟨rfl, .inl rfl⟩, has_a⟩
            | false =>
              have hb1 : ¬ 0 < cn 3 := fun hh => by have h2 : Nat.blt 0 (cn 3) = true := Nat.ble_eq_true_of_le hh; rw [h2] at hb; cases hb
              have hs3 := l3_no (l := l) (p0 := p0) hb
              conv => whnf
              (refine join_plain ?_; conv => whnf)
              refine esc_index (m := 8) (e := 22) (by rw [hP]; kernel_rfl) (by rw [hP]; kernel_rfl) (by rw [hP]; kernel_rfl) rfl (c := 3) rfl (by decide) rfl ?_
              conv => whnf
              refine dsplit (fun h1 => absurd (show (0 : Int) < ((cn 3 : Nat) : Int) from h1) (by omega)) (fun h1 => ?_)
              conv => whnf
              (repeat' (first | (refine And.intro (by (first | omega | assumption | (simp only [nadd_eq]; omega) | (simp [nadd_eq]; omega))) ?_; conv => whnf) | (refine arI64 (by omega) (by omega) ?_; conv => whnf) | (refine arU32 (by omega) (by omega) ?_; conv => whnf) | (refine arU8 (by omega) (by omega) ?_; conv => whnf)))
              refine ⟨4, by omega, by omega, ?_⟩
              conv => whnf
              refine Imp.trans (imp_ghost (GSpec.cell 6 8 (.io (Nat.blt 0 (cn 3)) (inT l) 21) rfl rfl (fun _ => by rw [hb]; rfl) (fun _ hh => hh))) ?_
              refine imp_intro hA [0, 1, 2, 3, 4, 5, 6, 7, 8, 9, 10, 11, 12, 13, 14, 15, 16, 17, 18, 19, 20, 21, 22, 23, 24, 25] rfl rfl rfl regs_a ?_ rfl
              refine ⟨⟨rfl, .inl (by first | (rw [hs3]; done) | (rw [hs3]; rfl))⟩, rfl, ⟨rfl, .inl rfl⟩, ⟨rfl, .inl rfl⟩, ⟨rfl, .inl rfl⟩, ⟨rfl, .inr ⟨optR_stable (inR0_stable _ _ _), fun ls lc F w hh => optR_off hb hh⟩⟩, ⟨rfl, .inl rfl⟩, ⟨rfl, .inl rfl⟩, ⟨rfl, .inl rfl⟩, ⟨rfl, .inl rfl⟩, has_a⟩
          · have hin := inner_ok l hl th (l3 l cn p0 4).1 (l3 l cn p0 4).2.1 (l3 l cn p0 4).2.2 (fun _ => 4) (cn 4)
            have hMc := l3_le (l := l) (p0 := p0) hcn64 4
            cases hb : Nat.blt 0 (cn 4) with
            | true =>
              have hb1 : 0 < cn 4 := Nat.le_of_ble_eq_true hb
              have hs3 := l3_yes (l := l) (p0 := p0) hb
              specialize hin (by omega) ⟨hb1, hcn64 4⟩ (any_const (by decide) _)
              conv => whnf
              (refine join_plain ?_; conv => whnf)
              refine esc_index (m := 8) (e := 22) (by rw [hP]; kernel_rfl) (by rw [hP]; kernel_rfl) (by rw [hP]; kernel_rfl) rfl (c := 4) rfl (by decide) rfl ?_
              conv => whnf
              refine dsplit (fun h1 => ?_) (fun h1 => absurd (show (0 : Int) < ((cn 4 : Nat) : Int) by omega) h1)
              conv => whnf
              (refine drawP_lazy (by rw [hP]; exact follows) 60 (by kernel_rfl) ?_; conv => whnf)
              repeat' (first | (refine And.intro (by first | omega | decide | (simp [nadd_eq]; omega)) ?_; conv => whnf) | (refine And.intro ?_ ?_ <;> (conv => whnf)))
              all_goals (refine callD_auto hP (hin) ?_; conv => whnf); (refine ⟨⟨rfl, rfl, rfl, has_a, rfl, rfl⟩, ?_⟩; conv => whnf)
              repeat' (first | (refine And.intro (by first | omega | decide | (simp [nadd_eq]; omega)) ?_; conv => whnf) | (refine And.intro ?_ ?_ <;> (conv => whnf)))
              all_goals
                (repeat' (first | (refine And.intro (by (first | omega | assumption | (simp only [nadd_eq]; omega) | (simp [nadd_eq]; omega))) ?_; conv => whnf) | (refine arI64 (by omega) (by omega) ?_; conv => whnf) | (refine arU32 (by omega) (by omega) ?_; conv => whnf) | (refine arU8 (by omega) (by omega) ?_; conv => whnf)))
                refine ⟨5, by omega, by omega, ?_⟩
                conv => whnf
                refine Imp.trans (imp_ghost (GSpec.cell 6 9 (.io (Nat.blt 0 (cn 4)) (inT l) 26) rfl rfl (fun _ => by rw [hb]; rfl) (fun _ hh => hh))) ?_
                refine imp_intro hA [0, 1, 2, 3, 4, 5, 6, 7, 8, 9, 10, 11, 12, 13, 14, 15, 16, 17, 18, 19, 20, 21, 26, 23, 24, 25] rfl rfl rfl regs_a ?_ rfl
                refine ⟨⟨rfl, .inl (by first | (rw [hs3]; done) | (rw [hs3]; rfl))⟩, rfl, ⟨rfl, .inl rfl⟩, ⟨rfl, .inl rfl⟩, ⟨rfl, .inl rfl⟩, ⟨rfl, .inl rfl⟩, ⟨rfl, .inr ⟨optR_stable (inR0_stable _ _ _), fun ls lc F w hh => optR_of hb hh⟩⟩, ⟨rfl, .inl rfl⟩, ⟨rfl, .inl rfl⟩, ⟨rfl, .inl rfl⟩, has_a⟩
            | false =>
              have hb1 : ¬ 0 < cn 4 := fun hh => by have h2 : Nat.blt 0 (cn 4) = true := Nat.ble_eq_true_of_le hh; rw [h2] at hb; cases hb
              have hs3 := l3_no (l := l) (p0 := p0) hb
              conv => whnf
              (refine join_plain ?_; conv => whnf)
              refine esc_index (m := 8) (e := 22) (by rw [hP]; kernel_rfl) (by rw [hP]; kernel_rfl) (by rw [hP]; kernel_rfl) rfl (c := 4) rfl (by decide) rfl ?_
              conv => whnf
              refine dsplit (fun h1 => absurd (show (0 : Int) < ((cn 4 : Nat) : Int) from h1) (by omega)) (fun h1 => ?_)
              conv => whnf
              (repeat' (first | (refine And.intro (by (first | omega | assumption | (simp only [nadd_eq]; omega) | (simp [nadd_eq]; omega))) ?_; conv => whnf) | (refine arI64 (by omega) (by omega) ?_; conv => whnf) | (refine arU32 (by omega) (by omega) ?_; conv => whnf) | (refine arU8 (by omega) (by omega) ?_; conv => whnf)))
              refine ⟨5, by omega, by omega, ?_⟩
              conv => whnf
              refine Imp.trans (imp_ghost (GSpec.cell 6 9 (.io (Nat.blt 0 (cn 4)) (inT l) 22) rfl rfl (fun _ => by rw [hb]; rfl) (fun _ hh => hh))) ?_
              refine imp_intro hA [0, 1, 2, 3, 4, 5, 6, 7, 8, 9, 10, 11, 12, 13, 14, 15, 16, 17, 18, 19, 20, 21, 22, 23, 24, 25] rfl rfl rfl regs_a ?_ rfl
              refine ⟨⟨rfl, .inl (by first | (rw [hs3]; done) | (rw [hs3]; rfl))⟩, rfl, ⟨rfl, .inl rfl⟩, ⟨rfl, .inl rfl⟩, ⟨rfl, .inl rfl⟩, ⟨rfl, .inl rfl⟩, ⟨rfl, .inr ⟨optR_stable (inR0_stable _ _ _), fun ls lc F w hh => optR_off hb hh⟩⟩, ⟨rfl, .inl rfl⟩, ⟨rfl, .inl rfl⟩, ⟨rfl, .inl rfl⟩, has_a⟩
          · have hin := inner_ok l hl th (l3 l cn p0 5).1 (l3 l cn p0 5).2.1 (l3 l cn p0 5).2.2 (fun _ => 5) (cn 5)
            have hMc := l3_le (l := l) (p0 := p0) hcn64 5
            cases hb : Nat.blt 0 (cn 5) with
            | true =>
              have hb1 : 0 < cn 5 := Nat.le_of_ble_eq_true hb
              have hs3 := l3_yes (l := l) (p0 := p0) hb
              specialize hin (by omega) ⟨hb1, hcn64 5⟩ (any_const (by decide) _)
              conv => whnf
              (refine join_plain ?_; conv => whnf)
              refine esc_index (m := 8) (e := 22) (by rw [hP]; kernel_rfl) (by rw [hP]; kernel_rfl) (by rw [hP]; kernel_rfl) rfl (c := 5) rfl (by decide) rfl ?_
              conv => whnf
              refine dsplit (fun h1 => ?_) (fun h1 => absurd (show (0 : Int) < ((cn 5 : Nat) : Int) by omega) h1)
              conv => whnf
              (refine drawP_lazy (by rw [hP]; exact follows) 60 (by kernel_rfl) ?_; conv => whnf)
              repeat' (first | (refine And.intro (by first | omega | decide | (simp [nadd_eq]; omega)) ?_; conv => whnf) | (refine And.intro ?_ ?_ <;> (conv => whnf)))
              all_goals (refine callD_auto hP (hin) ?_; conv => whnf); (refine ⟨⟨rfl, rfl, rfl, has_a, rfl, rfl⟩, ?_⟩; conv => whnf)
              repeat' (first | (refine And.intro (by first | omega | decide | (simp [nadd_eq]; omega)) ?_; conv => whnf) | (refine And.intro ?_ ?_ <;> (conv => whnf)))
              all_goals
                (repeat' (first | (refine And.intro (by (first | omega | assumption | (simp only [nadd_eq]; omega) | (simp [nadd_eq]; omega))) ?_; conv => whnf) | (refine arI64 (by omega) (by omega) ?_; conv => whnf) | (refine arU32 (by omega) (by omega) ?_; conv => whnf) | (refine arU8 (by omega) (by omega) ?_; conv => whnf)))
                refine ⟨6, by omega, by omega, ?_⟩
                conv => whnf
                refine Imp.trans (imp_ghost (GSpec.cell 6 10 (.io (Nat.blt 0 (cn 5)) (inT l) 26) rfl rfl (fun _ => by rw [hb]; rfl) (fun _ hh => hh))) ?_
                refine imp_intro hA [0, 1, 2, 3, 4, 5, 6, 7, 8, 9, 10, 11, 12, 13, 14, 15, 16, 17, 18, 19, 20, 21, 22, 26, 24, 25] rfl rfl rfl regs_a ?_ rfl
                refine ⟨⟨rfl, .inl (by first | (rw [hs3]; done) | (rw [hs3]; rfl))⟩, rfl, ⟨rfl, .inl rfl⟩, ⟨rfl, .inl rfl⟩, ⟨rfl, .inl rfl⟩, ⟨rfl, .inl rfl⟩, ⟨rfl, .inl rfl⟩, ⟨rfl, .inr ⟨optR_stable (inR0_stable _ _ _), fun ls lc F w hh => optR_of hb hh⟩⟩, ⟨rfl, .inl rfl⟩, ⟨rfl, .inl rfl⟩, has_a⟩
            | false =>
              have hb1 : ¬ 0 < cn 5 := fun hh => by have h2 : Nat.blt 0 (cn 5) = true := Nat.ble_eq_true_of_le hh; rw [h2] at hb; cases hb
              have hs3 := l3_no (l := l) (p0 := p0) hb
              conv => whnf
              (refine join_plain ?_; conv => whnf)
              refine esc_index (m := 8) (e := 22) (by rw [hP]; kernel_rfl) (by rw [hP]; kernel_rfl) (by rw [hP]; kernel_rfl) rfl (c := 5) rfl (by decide) rfl ?_
              conv => whnf
              refine dsplit (fun h1 => absurd (show (0 : Int) < ((cn 5 : Nat) : Int) from h1) (by omega)) (fun h1 => ?_)
              conv => whnf
              (repeat' (first | (refine And.intro (by (first | omega | assumption | (simp only [nadd_eq]; omega) | (simp [nadd_eq]; omega))) ?_; conv => whnf) | (refine arI64 (by omega) (by omega) ?_; conv => whnf) | (refine arU32 (by omega) (by omega) ?_; conv => whnf) | (refine arU8 (by omega) (by omega) ?_; conv => whnf)))
              refine ⟨6, by omega, by omega, ?_⟩
              conv => whnf
              refine Imp.trans (imp_ghost (GSpec.cell 6 10 (.io (Nat.blt 0 (cn 5)) (inT l) 23) rfl rfl (fun _ => by rw [hb]; rfl) (fun _ hh => hh))) ?_
              refine imp_intro hA [0, 1, 2, 3, 4, 5, 6, 7, 8, 9, 10, 11, 12, 13, 14, 15, 16, 17, 18, 19, 20, 21, 22, 23, 24, 25] rfl rfl rfl regs_a ?_ rfl
              refine ⟨⟨rfl, .inl (by first | (rw [hs3]; done) | (rw [hs3]; rfl))⟩, rfl, ⟨rfl, .inl rfl⟩, ⟨rfl, .inl rfl⟩, ⟨rfl, .inl rfl⟩, ⟨rfl, .inl rfl⟩, ⟨rfl, .inl rfl⟩, ⟨rfl, .inr ⟨optR_stable (inR0_stable _ _ _), fun ls lc F w hh => optR_off hb hh⟩⟩, ⟨rfl, .inl rfl⟩, ⟨rfl, .inl rfl⟩, has_a⟩
          · have hin := inner_ok l hl th (l3 l cn p0 6).1 (l3 l cn p0 6).2.1 (l3 l cn p0 6).2.2 (fun _ => 6) (cn 6)
            have hMc := l3_le (l := l) (p0 := p0) hcn64 6
            cases hb : Nat.blt 0 (cn 6) with
            | true =>
              have hb1 : 0 < cn 6 := Nat.le_of_ble_eq_true hb
              have hs3 := l3_yes (l := l) (p0 := p0) hb
              specialize hin (by omega) ⟨hb1, hcn64 6⟩ (any_const (by decide) _)
              conv => whnf
              (refine join_plain ?_; conv => whnf)
              refine esc_index (m := 8) (e := 22) (by rw [hP]; kernel_rfl) (by rw [hP]; kernel_rfl) (by rw [hP]; kernel_rfl) rfl (c := 6) rfl (by decide) rfl ?_
              conv => whnf
              refine dsplit (fun h1 => ?_) (fun h1 => absurd (show (0 : Int) < ((cn 6 : Nat) : Int) by omega) h1)
              conv => whnf
              (refine drawP_lazy (by rw [hP]; exact follows) 60 (by kernel_rfl) ?_; conv => whnf)
              repeat' (first | (refine And.intro (by first | omega | decide | (simp [nadd_eq]; omega)) ?_; conv => whnf) | (refine And.intro ?_ ?_ <;> (conv => whnf)))
              all_goals (refine callD_auto hP (hin) ?_; conv => whnf); (refine ⟨⟨rfl, rfl, rfl, has_a, rfl, rfl⟩, ?_⟩; conv => whnf)
              repeat' (first | (refine And.intro (by first | omega | decide | (simp [nadd_eq]; omega)) ?_; conv => whnf) | (refine And.intro ?_ ?_ <;> (conv => whnf)))
              all_goals
                (repeat' (first | (refine And.intro (by (first | omega | assumption | (simp only [nadd_eq]; omega) | (simp [nadd_eq]; omega))) ?_; conv => whnf) | (refine arI64 (by omega) (by omega) ?_; conv => whnf) | (refine arU32 (by omega) (by omega) ?_; conv => whnf) | (refine arU8 (by omega) (by omega) ?_; conv => whnf)))
                refine ⟨7, by omega, by omega, ?_⟩
                conv => whnf
                refine Imp.trans (imp_ghost (GSpec.cell 6 11 (.io (Nat.blt 0 (cn 6)) (inT l) 26) rfl rfl (fun _ => by rw [hb]; rfl) (fun _ hh => hh))) ?_
                refine imp_intro hA [0, 1, 2, 3, 4, 5, 6, 7, 8, 9, 10, 11, 12, 13, 14, 15, 16, 17, 18, 19, 20, 21, 22, 23, 26, 25] rfl rfl rfl regs_a ?_ rfl
                refine ⟨⟨rfl, .inl (by first | (rw [hs3]; done) | (rw [hs3]; rfl))⟩, rfl, ⟨rfl, .inl rfl⟩, ⟨rfl, .inl rfl⟩, ⟨rfl, .inl rfl⟩, ⟨rfl, .inl rfl⟩, ⟨rfl, .inl rfl⟩, ⟨rfl, .inl rfl⟩, ⟨rfl, .inr ⟨optR_stable (inR0_stable _ _ _), fun ls lc F w hh => optR_of hb hh⟩⟩, ⟨rfl, .inl rfl⟩, has_a⟩
            | false =>
              have hb1 : ¬ 0 < cn 6 := fun hh => by have h2 : Nat.blt 0 (cn 6) = true := Nat.ble_eq_true_of_le hh; rw [h2] at hb; cases hb
              have hs3 := l3_no (l := l) (p0 := p0) hb
              conv => whnf
              (refine join_plain ?_; conv => whnf)
              refine esc_index (m := 8) (e := 22) (by rw [hP]; kernel_rfl) (by rw [hP]; kernel_rfl) (by rw [hP]; kernel_rfl) rfl (c := 6) rfl (by decide) rfl ?_
              conv => whnf
              refine dsplit (fun h1 => absurd (show (0 : Int) < ((cn 6 : Nat) : Int) from h1) (by omega)) (fun h1 => ?_)
              conv => whnf
              (repeat' (first | (refine And.intro (by (first | omega | assumption | (simp only [nadd_eq]; omega) | (simp [nadd_eq]; omega))) ?_; conv => whnf) | (refine arI64 (by omega) (by omega) ?_; conv => whnf) | (refine arU32 (by omega) (by omega) ?_; conv => whnf) | (refine arU8 (by omega) (by omega) ?_; conv => whnf)))
              refine ⟨7, by omega, by omega, ?_⟩
              conv => whnf
              refine Imp.trans (imp_ghost (GSpec.cell 6 11 (.io (Nat.blt 0 (cn 6)) (inT l) 24) rfl rfl (fun _ => by rw [hb]; rfl) (fun _ hh => hh))) ?_
              refine imp_intro hA [0, 1, 2, 3, 4, 5, 6, 7, 8, 9, 10, 11, 12, 13, 14, 15, 16, 17, 18, 19, 20, 21, 22, 23, 24, 25] rfl rfl rfl regs_a ?_ rfl
              refine ⟨⟨rfl, .inl (by first | (rw [hs3]; done) | (rw [hs3]; rfl))⟩, rfl, ⟨rfl, .inl rfl⟩, ⟨rfl, .inl rfl⟩, ⟨rfl, .inl rfl⟩, ⟨rfl, .inl rfl⟩, ⟨rfl, .inl rfl⟩, ⟨rfl, .inl rfl⟩, ⟨rfl, .inr ⟨optR_stable (inR0_stable _ _ _), fun ls lc F w hh => optR_off hb hh⟩⟩, ⟨rfl, .inl rfl⟩, has_a⟩
          · have hin := inner_ok l hl th (l3 l cn p0 7).1 (l3 l cn p0 7).2.1 (l3 l cn p0 7).2.2 (fun _ => 7) (cn 7)
            have hMc := l3_le (l := l) (p0 := p0) hcn64 7
            cases hb : Nat.blt 0 (cn 7) with
            | true =>
              have hb1 : 0 < cn 7 := Nat.le_of_ble_eq_true hb
              have hs3 := l3_yes (l := l) (p0 := p0) hb
              specialize hin (by omega) ⟨hb1, hcn64 7⟩ (any_const (by decide) _)
              conv => whnf
              (refine join_plain ?_; conv => whnf)
              refine esc_index (m := 8) (e := 22) (by rw [hP]; kernel_rfl) (by rw [hP]; kernel_rfl) (by rw [hP]; kernel_rfl) rfl (c := 7) rfl (by decide) rfl ?_
              conv => whnf
              refine dsplit (fun h1 => ?_) (fun h1 => absurd (show (0 : Int) < ((cn 7 : Nat) : Int) by omega) h1)
              conv => whnf
              (refine drawP_lazy (by rw [hP]; exact follows) 60 (by kernel_rfl) ?_; conv => whnf)
              repeat' (first | (refine And.intro (by first | omega | decide | (simp [nadd_eq]; omega)) ?_; conv => whnf) | (refine And.intro ?_ ?_ <;> (conv => whnf)))
              all_goals (refine callD_auto hP (hin) ?_; conv => whnf); (refine ⟨⟨rfl, rfl, rfl, has_a, rfl, rfl⟩, ?_⟩; conv => whnf)
              repeat' (first | (refine And.intro (by first | omega | decide | (simp [nadd_eq]; omega)) ?_; conv => whnf) | (refine And.intro ?_ ?_ <;> (conv => whnf)))
              all_goals
                (repeat' (first | (refine And.intro (by (first | omega | assumption | (simp only [nadd_eq]; omega) | (simp [nadd_eq]; omega))) ?_; conv => whnf) | (refine arI64 (by omega) (by omega) ?_; conv => whnf) | (refine arU32 (by omega) (by omega) ?_; conv => whnf) | (refine arU8 (by omega) (by omega) ?_; conv => whnf)))
                refine ⟨8, by omega, by omega, ?_⟩
                conv => whnf
                refine Imp.trans (imp_ghost (GSpec.cell 6 12 (.io (Nat.blt 0 (cn 7)) (inT l) 26) rfl rfl (fun _ => by rw [hb]; rfl) (fun _ hh => hh))) ?_
                refine imp_intro hA [0, 1, 2, 3, 4, 5, 6, 7, 8, 9, 10, 11, 12, 13, 14, 15, 16, 17, 18, 19, 20, 21, 22, 23, 24, 26] rfl rfl rfl regs_a ?_ rfl
                refine ⟨⟨rfl, .inl (by first | (rw [hs3]; done) | (rw [hs3]; rfl))⟩, rfl, ⟨rfl, .inl rfl⟩, ⟨rfl, .inl rfl⟩, ⟨rfl, .inl rfl⟩, ⟨rfl, .inl rfl⟩, ⟨rfl, .inl rfl⟩, ⟨rfl, .inl rfl⟩, ⟨rfl, .inl rfl⟩, ⟨rfl, .inr ⟨optR_stable (inR0_stable _ _ _), fun ls lc F w hh => optR_of hb hh⟩⟩, has_a⟩
            | false =>
              have hb1 : ¬ 0 < cn 7 := fun hh => by have h2 : Nat.blt 0 (cn 7) = true := Nat.ble_eq_true_of_le hh; rw [h2] at hb; cases hb
              have hs3 := l3_no (l := l) (p0 := p0) hb
              conv => whnf
              (refine join_plain ?_; conv => whnf)
              refine esc_index (m := 8) (e := 22) (by rw [hP]; kernel_rfl) (by rw [hP]; kernel_rfl) (by rw [hP]; kernel_rfl) rfl (c := 7) rfl (by decide) rfl ?_
              conv => whnf
              refine dsplit (fun h1 => absurd (show (0 : Int) < ((cn 7 : Nat) : Int) from h1) (by omega)) (fun h1 => ?_)
              conv => whnf
              (repeat' (first | (refine And.intro (by (first | omega | assumption | (simp only [nadd_eq]; omega) | (simp [nadd_eq]; omega))) ?_; conv => whnf) | (refine arI64 (by omega) (by omega) ?_; conv => whnf) | (refine arU32 (by omega) (by omega) ?_; conv => whnf) | (refine arU8 (by omega) (by omega) ?_; conv => whnf)))
              refine ⟨8, by omega, by omega, ?_⟩
              conv => whnf
              refine Imp.trans (imp_ghost (GSpec.cell 6 12 (.io (Nat.blt 0 (cn 7)) (inT l) 25) rfl rfl (fun _ => by rw [hb]; rfl) (fun _ hh => hh))) ?_
              refine imp_intro hA [0, 1, 2, 3, 4, 5, 6, 7, 8, 9, 10, 11, 12, 13, 14, 15, 16, 17, 18, 19, 20, 21, 22, 23, 24, 25] rfl rfl rfl regs_a ?_ rfl
              refine ⟨⟨rfl, .inl (by first | (rw [hs3]; done) | (rw [hs3]; rfl))⟩, rfl, ⟨rfl, .inl rfl⟩, ⟨rfl, .inl rfl⟩, ⟨rfl, .inl rfl⟩, ⟨rfl, .inl rfl⟩, ⟨rfl, .inl rfl⟩, ⟨rfl, .inl rfl⟩, ⟨rfl, .inl rfl⟩, ⟨rfl, .inr ⟨optR_stable (inR0_stable _ _ _), fun ls lc F w hh => optR_off hb hh⟩⟩, has_a⟩
          · conv => whnf
            refine finP_ghost (close_at [6, 2, 9, 5, 18, 19, 20, 21, 22, 23, 24, 25] (H := cohH0 m M g l bu cn p0 (placeI h m)) (np := 12) 0 rfl (by decide) rfl rfl ?_ rfl) (Nat.le_of_ble_eq_true rfl) ?_
            · exact has_a
            · (refine fin_auto ?_; conv => whnf); exact ⟨rfl, rfl, rfl, rfl, has_a, rfl⟩
end Go.Proofs.YtlkfolopbehikaaGreat
set_option linter.unusedSimpArgs false
set_option linter.unusedVariables false
namespace Go.Proofs.YtlkfolopbehikaaGreat
open Go Go.Sx

/-- A lock of locks, with its port (name 1, of others). -/
def cohH1 (m M g l : Nat) (budget : Int) (cn : Nat → Nat) (p0 : Nat × (Nat → Int) × (Nat → Int)) (pl : Nat → List Value) : Heap :=
  [(0, some (.st [.p 2 0 0 0, .p 1 0 0 0, .v (.int .i64 M), .v (.int .u32 budget), .i (inT g) 3, .io (lb cn 8 0) (inT l) 5, .io (lb cn 8 1) (inT l) 6, .io (lb cn 8 2) (inT l) 7, .io (lb cn 8 3) (inT l) 8, .io (lb cn 8 4) (inT l) 9, .io (lb cn 8 5) (inT l) 10, .io (lb cn 8 6) (inT l) 11, .io (lb cn 8 7) (inT l) 12, .s 4 4 0 m 0])), (2, some (seatP m (fun _ => 0) (fun _ => -1) false false)), (3, some (.ob [1] (inR1 g 8 (M + 8)))), (4, some (.ar 4 m pl)), (5, some (.ob [1] (OptR (lb cn 8 0) (inR1 l (cn 0) (l3 l cn p0 0).1)))), (6, some (.ob [1] (OptR (lb cn 8 1) (inR1 l (cn 1) (l3 l cn p0 1).1)))), (7, some (.ob [1] (OptR (lb cn 8 2) (inR1 l (cn 2) (l3 l cn p0 2).1)))), (8, some (.ob [1] (OptR (lb cn 8 3) (inR1 l (cn 3) (l3 l cn p0 3).1)))), (9, some (.ob [1] (OptR (lb cn 8 4) (inR1 l (cn 4) (l3 l cn p0 4).1)))), (10, some (.ob [1] (OptR (lb cn 8 5) (inR1 l (cn 5) (l3 l cn p0 5).1)))), (11, some (.ob [1] (OptR (lb cn 8 6) (inR1 l (cn 6) (l3 l cn p0 6).1)))), (12, some (.ob [1] (OptR (lb cn 8 7) (inR1 l (cn 7) (l3 l cn p0 7).1))))]
def usK (c j : Nat) : List Nat := bif Nat.blt j c then [1] else []
def usR (l : Nat) (cn : Nat → Nat) (p0 : Nat × (Nat → Int) × (Nat → Int)) (c j : Nat) : RelT := bif Nat.blt j c then OptR (lb cn 8 j) (inR1 l (cn j) (l3 l cn p0 j).1) else OptR (lb cn 8 j) (inR0 l (cn j) (l3 l cn p0 j).1)
set_option maxRecDepth 8000 in
set_option maxHeartbeats 4000000 in
theorem cohUse_spec (m M g l : Nat) (bu : Int) (cn : Nat → Nat) (p0 : Nat × (Nat → Int) × (Nat → Int)) (pl : Nat → List Value) (hg : isIn g) (hl : isIn l) :
    FSpec Tryz.prog 272 [(0, some (cohP0 m M g l bu cn p0 pl))] 2 [.l (.p 0 0 0 0), .l (.p 1 0 0 0)] fun x h k =>
      x = .t [] ∧ k = 2 ∧ h = [(0, some (packE (cohH1 m M g l bu cn p0 pl) 13 1))] := by
  have hug := inUse_spec g hg 8 (M + 8)
  refine spec_of_ev_g (open_at 0 (h := [(0, some (cohP0 m M g l bu cn p0 pl))]) (n := 2) (ks := []) (H := cohH0 m M g l bu cn p0 pl) (np := 12) rfl (by decide) rfl rfl rfl) Tryz.func272 ic272_eq (rs := []) (by kernel_rfl) (by kernel_rfl) (by kernel_rfl) fun G hP hA => ?_
  unfold evF ic272
  conv => whnf
  refine inv_own hP (invUse_in g hg) ?_
  (refine call_auto hP (hug) ?_; conv => whnf); (refine ⟨⟨rfl, rfl, rfl, has_a, rfl, rfl⟩, ?_⟩; conv => whnf)
  refine loop_auto (α := Nat) (ds := []) (N := 13) (fun c => [(20, sInt .i64 (c : Int))]) [] (fun c => [(5, some (.ob (usK c 0) (usR l cn p0 c 0))), (6, some (.ob (usK c 1) (usR l cn p0 c 1))), (7, some (.ob (usK c 2) (usR l cn p0 c 2))), (8, some (.ob (usK c 3) (usR l cn p0 c 3))), (9, some (.ob (usK c 4) (usR l cn p0 c 4))), (10, some (.ob (usK c 5) (usR l cn p0 c 5))), (11, some (.ob (usK c 6) (usR l cn p0 c 6))), (12, some (.ob (usK c 7) (usR l cn p0 c 7)))])
    (fun c => c ≤ 8) (fun c => 8 - c) 0 (Nat.zero_le _) ?_ fun c hc8 => ?_
  · conv => whnf
    refine imp_intro hA [0, 1, 2, 3, 4, 5, 6, 7, 8, 9, 10, 11, 12] rfl rfl rfl regs_a ?_ rfl
    exact has_a
  rcases (show c = 0 ∨ c = 1 ∨ c = 2 ∨ c = 3 ∨ c = 4 ∨ c = 5 ∨ c = 6 ∨ c = 7 ∨ c = 8 by omega) with rfl | rfl | rfl | rfl | rfl | rfl | rfl | rfl | rfl
  · have hu := inUse_spec l hl (cn 0) (l3 l cn p0 0).1
    cases hb : lb cn 8 0 with
    | true =>
      conv => whnf
      (refine join_plain ?_; conv => whnf)
      refine esc_index (m := 8) (e := 51) (by rw [hP]; kernel_rfl) (by rw [hP]; kernel_rfl) (by rw [hP]; kernel_rfl) rfl (c := 0) rfl (by decide) rfl ?_
      conv => whnf
      refine inv_io rfl (inv_own hP (invUse_in l hl) ?_)
      (refine call_auto hP (hu) ?_; conv => whnf); refine ⟨⟨rfl, rfl, rfl, ?_, rfl, rfl⟩, ?_⟩
      · exact ⟨⟨rfl, .inr ⟨inR0_stable _ _ _, fun ls lc F w hh => hh.1 hb⟩⟩, trivial⟩
      conv => whnf
      (repeat' (first | (refine And.intro (by (first | omega | assumption | (simp only [nadd_eq]; omega) | (simp [nadd_eq]; omega))) ?_; conv => whnf) | (refine arI64 (by omega) (by omega) ?_; conv => whnf) | (refine arU32 (by omega) (by omega) ?_; conv => whnf) | (refine arU8 (by omega) (by omega) ?_; conv => whnf)))
      refine ⟨1, by omega, by omega, ?_⟩
      conv => whnf
      refine imp_intro hA [0, 1, 2, 3, 4, 5, 6, 7, 8, 9, 10, 11, 12] rfl rfl rfl regs_a ?_ rfl
      exact ⟨⟨rfl, .inr ⟨optR_stable (inR1_stable _ _ _), fun ls lc F w hh => optR_of hb hh⟩⟩, ⟨rfl, .inl rfl⟩, ⟨rfl, .inl rfl⟩, ⟨rfl, .inl rfl⟩, ⟨rfl, .inl rfl⟩, ⟨rfl, .inl rfl⟩, ⟨rfl, .inl rfl⟩, ⟨rfl, .inl rfl⟩, has_a⟩
    | false =>
      conv => whnf
      (refine join_plain ?_; conv => whnf)
      refine esc_index (m := 8) (e := 51) (by rw [hP]; kernel_rfl) (by rw [hP]; kernel_rfl) (by rw [hP]; kernel_rfl) rfl (c := 0) rfl (by decide) rfl ?_
      conv => whnf
      (repeat' (first | (refine And.intro (by (first | omega | assumption | (simp only [nadd_eq]; omega) | (simp [nadd_eq]; omega))) ?_; conv => whnf) | (refine arI64 (by omega) (by omega) ?_; conv => whnf) | (refine arU32 (by omega) (by omega) ?_; conv => whnf) | (refine arU8 (by omega) (by omega) ?_; conv => whnf)))
      refine ⟨1, by omega, by omega, ?_⟩
      conv => whnf
      refine Imp.trans (imp_ghost (GSpec.reob 5 [1] (OptR (lb cn 8 0) (inR1 l (cn 0) (l3 l cn p0 0).1)) rfl (fun j hj => by rw [List.mem_singleton.1 hj]; exact Nat.le_of_ble_eq_true rfl) (optR_stable (inR1_stable _ _ _)) (fun ls ls2 lc F w hh => optR_not hb hh))) ?_
      refine imp_intro hA [0, 1, 2, 3, 4, 5, 6, 7, 8, 9, 10, 11, 12] rfl rfl rfl regs_a ?_ rfl
      exact ⟨⟨rfl, .inl rfl⟩, ⟨rfl, .inl rfl⟩, ⟨rfl, .inl rfl⟩, ⟨rfl, .inl rfl⟩, ⟨rfl, .inl rfl⟩, ⟨rfl, .inl rfl⟩, ⟨rfl, .inl rfl⟩, ⟨rfl, .inl rfl⟩, has_a⟩
  · have hu := inUse_spec l hl (cn 1) (l3 l cn p0 1).1
    cases hb : lb cn 8 1 with
    | true =>
      conv => whnf
      (refine join_plain ?_; conv => whnf)
      refine esc_index (m := 8) (e := 51) (by rw [hP]; kernel_rfl) (by rw [hP]; kernel_rfl) (by rw [hP]; kernel_rfl) rfl (c := 1) rfl (by decide) rfl ?_
      conv => whnf
      refine inv_io rfl (inv_own hP (invUse_in l hl) ?_)
      (refine call_auto hP (hu) ?_; conv => whnf); refine ⟨⟨rfl, rfl, rfl, ?_, rfl, rfl⟩, ?_⟩
      · exact ⟨⟨rfl, .inr ⟨inR0_stable _ _ _, fun ls lc F w hh => hh.1 hb⟩⟩, trivial⟩
      conv => whnf
      (repeat' (first | (refine And.intro (by (first | omega | assumption | (simp only [nadd_eq]; omega) | (simp [nadd_eq]; omega))) ?_; conv => whnf) | (refine arI64 (by omega) (by omega) ?_; conv => whnf) | (refine arU32 (by omega) (by omega) ?_; conv => whnf) | (refine arU8 (by omega) (by omega) ?_; conv => whnf)))
      refine ⟨2, by omega, by omega, ?_⟩
      conv => whnf
      refine imp_intro hA [0, 1, 2, 3, 4, 5, 6, 7, 8, 9, 10, 11, 12] rfl rfl rfl regs_a ?_ rfl
      exact ⟨⟨rfl, .inl rfl⟩, ⟨rfl, .inr ⟨optR_stable (inR1_stable _ _ _), fun ls lc F w hh => optR_of hb hh⟩⟩, ⟨rfl, .inl rfl⟩, ⟨rfl, .inl rfl⟩, ⟨rfl, .inl rfl⟩, ⟨rfl, .inl rfl⟩, ⟨rfl, .inl rfl⟩, ⟨rfl, .inl rfl⟩, has_a⟩
    | false =>
      conv => whnf
      (refine join_plain ?_; conv => whnf)
      refine esc_index (m := 8) (e := 51) (by rw [hP]; kernel_rfl) (by rw [hP]; kernel_rfl) (by rw [hP]; kernel_rfl) rfl (c := 1) rfl (by decide) rfl ?_
      conv => whnf
      (repeat' (first | (refine And.intro (by (first | omega | assumption | (simp only [nadd_eq]; omega) | (simp [nadd_eq]; omega))) ?_; conv => whnf) | (refine arI64 (by omega) (by omega) ?_; conv => whnf) | (refine arU32 (by omega) (by omega) ?_; conv => whnf) | (refine arU8 (by omega) (by omega) ?_; conv => whnf)))
      refine ⟨2, by omega, by omega, ?_⟩
      conv => whnf
      refine Imp.trans (imp_ghost (GSpec.reob 6 [1] (OptR (lb cn 8 1) (inR1 l (cn 1) (l3 l cn p0 1).1)) rfl (fun j hj => by rw [List.mem_singleton.1 hj]; exact Nat.le_of_ble_eq_true rfl) (optR_stable (inR1_stable _ _ _)) (fun ls ls2 lc F w hh => optR_not hb hh))) ?_
      refine imp_intro hA [0, 1, 2, 3, 4, 5, 6, 7, 8, 9, 10, 11, 12] rfl rfl rfl regs_a ?_ rfl
      exact ⟨⟨rfl, .inl rfl⟩, ⟨rfl, .inl rfl⟩, ⟨rfl, .inl rfl⟩, ⟨rfl, .inl rfl⟩, ⟨rfl, .inl rfl⟩, ⟨rfl, .inl rfl⟩, ⟨rfl, .inl rfl⟩, ⟨rfl, .inl rfl⟩, has_a⟩
  · have hu := inUse_spec l hl (cn 2) (l3 l cn p0 2).1
    cases hb : lb cn 8 2 with
    | true =>
      conv => whnf
      (refine join_plain ?_; conv => whnf)
      refine esc_index (m := 8) (e := 51) (by rw [hP]; kernel_rfl) (by rw [hP]; kernel_rfl) (by rw [hP]; kernel_rfl) rfl (c := 2) rfl (by decide) rfl ?_
      conv => whnf
      refine inv_io rfl (inv_own hP (invUse_in l hl) ?_)
      (refine call_auto hP (hu) ?_; conv => whnf); refine ⟨⟨rfl, rfl, rfl, ?_, rfl, rfl⟩, ?_⟩
      · exact ⟨⟨rfl, .inr ⟨inR0_stable _ _ _, fun ls lc F w hh => hh.1 hb⟩⟩, trivial⟩
      conv => whnf
      (repeat' (first | (refine And.intro (by (first | omega | assumption | (simp only [nadd_eq]; omega) | (simp [nadd_eq]; omega))) ?_; conv => whnf) | (refine arI64 (by omega) (by omega) ?_; conv => whnf) | (refine arU32 (by omega) (by omega) ?_; conv => whnf) | (refine arU8 (by omega) (by omega) ?_; conv => whnf)))
      refine ⟨3, by omega, by omega, ?_⟩
      conv => whnf
      refine imp_intro hA [0, 1, 2, 3, 4, 5, 6, 7, 8, 9, 10, 11, 12] rfl rfl rfl regs_a ?_ rfl
      exact ⟨⟨rfl, .inl rfl⟩, ⟨rfl, .inl rfl⟩, ⟨rfl, .inr ⟨optR_stable (inR1_stable _ _ _), fun ls lc F w hh => optR_of hb hh⟩⟩, ⟨rfl, .inl rfl⟩, ⟨rfl, .inl rfl⟩, ⟨rfl, .inl rfl⟩, ⟨rfl, .inl rfl⟩, ⟨rfl, .inl rfl⟩, has_a⟩
    | false =>
      conv => whnf
      (refine join_plain ?_; conv => whnf)
      refine esc_index (m := 8) (e := 51) (by rw [hP]; kernel_rfl) (by rw [hP]; kernel_rfl) (by rw [hP]; kernel_rfl) rfl (c := 2) rfl (by decide) rfl ?_
      conv => whnf
      (repeat' (first | (refine And.intro (by (first | omega | assumption | (simp only [nadd_eq]; omega) | (simp [nadd_eq]; omega))) ?_; conv => whnf) | (refine arI64 (by omega) (by omega) ?_; conv => whnf) | (refine arU32 (by omega) (by omega) ?_; conv => whnf) | (refine arU8 (by omega) (by omega) ?_; conv => whnf)))
      refine ⟨3, by omega, by omega, ?_⟩
      conv => whnf
      refine Imp.trans (imp_ghost (GSpec.reob 7 [1] (OptR (lb cn 8 2) (inR1 l (cn 2) (l3 l cn p0 2).1)) rfl (fun j hj => by rw [List.mem_singleton.1 hj]; exact Nat.le_of_ble_eq_true rfl) (optR_stable (inR1_stable _ _ _)) (fun ls ls2 lc F w hh => optR_not hb hh))) ?_
      refine imp_intro hA [0, 1, 2, 3, 4, 5, 6, 7, 8, 9, 10, 11, 12] rfl rfl rfl regs_a ?_ rfl
      exact ⟨⟨rfl, .inl rfl⟩, ⟨rfl, .inl rfl⟩, ⟨rfl, .inl rfl⟩, ⟨rfl, .inl rfl⟩, ⟨rfl, .inl rfl⟩, ⟨rfl, .inl rfl⟩, ⟨rfl, .inl rfl⟩, ⟨rfl, .inl rfl⟩, has_a⟩
  · have hu := inUse_spec l hl (cn 3) (l3 l cn p0 3).1
    cases hb : lb cn 8 3 with
    | true =>
      conv => whnf
      (refine join_plain ?_; conv => whnf)
      refine esc_index (m := 8) (e := 51) (by rw [hP]; kernel_rfl) (by rw [hP]; kernel_rfl) (by rw [hP]; kernel_rfl) rfl (c := 3) rfl (by decide) rfl ?_
      conv => whnf
      refine inv_io rfl (inv_own hP (invUse_in l hl) ?_)
      (refine call_auto hP (hu) ?_; conv => whnf); refine ⟨⟨rfl, rfl, rfl, ?_, rfl, rfl⟩, ?_⟩
      · exact ⟨⟨rfl, .inr ⟨inR0_stable _ _ _, fun ls lc F w hh => hh.1 hb⟩⟩, trivial⟩
      conv => whnf
      (repeat' (first | (refine And.intro (by (first | omega | assumption | (simp only [nadd_eq]; omega) | (simp [nadd_eq]; omega))) ?_; conv => whnf) | (refine arI64 (by omega) (by omega) ?_; conv => whnf) | (refine arU32 (by omega) (by omega) ?_; conv => whnf) | (refine arU8 (by omega) (by omega) ?_; conv => whnf)))
      refine ⟨4, by omega, by omega, ?_⟩
      conv => whnf
      refine imp_intro hA [0, 1, 2, 3, 4, 5, 6, 7, 8, 9, 10, 11, 12] rfl rfl rfl regs_a ?_ rfl
      exact ⟨⟨rfl, .inl rfl⟩, ⟨rfl, .inl rfl⟩, ⟨rfl, .inl rfl⟩, ⟨rfl, .inr ⟨optR_stable (inR1_stable _ _ _), fun ls lc F w hh => optR_of hb hh⟩⟩, ⟨rfl, .inl rfl⟩, ⟨rfl, .inl rfl⟩, ⟨rfl, .inl rfl⟩, ⟨rfl, .inl rfl⟩, has_a⟩
    | false =>
      conv => whnf
      (refine join_plain ?_; conv => whnf)
      refine esc_index (m := 8) (e := 51) (by rw [hP]; kernel_rfl) (by rw [hP]; kernel_rfl) (by rw [hP]; kernel_rfl) rfl (c := 3) rfl (by decide) rfl ?_
      conv => whnf
      (repeat' (first | (refine And.intro (by (first | omega | assumption | (simp only [nadd_eq]; omega) | (simp [nadd_eq]; omega))) ?_; conv => whnf) | (refine arI64 (by omega) (by omega) ?_; conv => whnf) | (refine arU32 (by omega) (by omega) ?_; conv => whnf) | (refine arU8 (by omega) (by omega) ?_; conv => whnf)))
      refine ⟨4, by omega, by omega, ?_⟩
      conv => whnf
      refine Imp.trans (imp_ghost (GSpec.reob 8 [1] (OptR (lb cn 8 3) (inR1 l (cn 3) (l3 l cn p0 3).1)) rfl (fun j hj => by rw [List.mem_singleton.1 hj]; exact Nat.le_of_ble_eq_true rfl) (optR_stable (inR1_stable _ _ _)) (fun ls ls2 lc F w hh => optR_not hb hh))) ?_
      refine imp_intro hA [0, 1, 2, 3, 4, 5, 6, 7, 8, 9, 10, 11, 12] rfl rfl rfl regs_a ?_ rfl
      exact ⟨⟨rfl, .inl rfl⟩, ⟨rfl, .inl rfl⟩, ⟨rfl, .inl rfl⟩, ⟨rfl, .inl rfl⟩, ⟨rfl, .inl rfl⟩, ⟨rfl, .inl rfl⟩, ⟨rfl, .inl rfl⟩, ⟨rfl, .inl rfl⟩, has_a⟩
  · have hu := inUse_spec l hl (cn 4) (l3 l cn p0 4).1
    cases hb : lb cn 8 4 with
    | true =>
      conv => whnf
      (refine join_plain ?_; conv => whnf)
      refine esc_index (m := 8) (e := 51) (by rw [hP]; kernel_rfl) (by rw [hP]; kernel_rfl) (by rw [hP]; kernel_rfl) rfl (c := 4) rfl (by decide) rfl ?_
      conv => whnf
      refine inv_io rfl (inv_own hP (invUse_in l hl) ?_)
      (refine call_auto hP (hu) ?_; conv => whnf); refine ⟨⟨rfl, rfl, rfl, ?_, rfl, rfl⟩, ?_⟩
      · exact ⟨⟨rfl, .inr ⟨inR0_stable _ _ _, fun ls lc F w hh => hh.1 hb⟩⟩, trivial⟩
      conv => whnf
      (repeat' (first | (refine And.intro (by (first | omega | assumption | (simp only [nadd_eq]; omega) | (simp [nadd_eq]; omega))) ?_; conv => whnf) | (refine arI64 (by omega) (by omega) ?_; conv => whnf) | (refine arU32 (by omega) (by omega) ?_; conv => whnf) | (refine arU8 (by omega) (by omega) ?_; conv => whnf)))
      refine ⟨5, by omega, by omega, ?_⟩
      conv => whnf
      refine imp_intro hA [0, 1, 2, 3, 4, 5, 6, 7, 8, 9, 10, 11, 12] rfl rfl rfl regs_a ?_ rfl
      exact ⟨⟨rfl, .inl rfl⟩, ⟨rfl, .inl rfl⟩, ⟨rfl, .inl rfl⟩, ⟨rfl, .inl rfl⟩, ⟨rfl, .inr ⟨optR_stable (inR1_stable _ _ _), fun ls lc F w hh => optR_of hb hh⟩⟩, ⟨rfl, .inl rfl⟩, ⟨rfl, .inl rfl⟩, ⟨rfl, .inl rfl⟩, has_a⟩
    | false =>
      conv => whnf
      (refine join_plain ?_; conv => whnf)
      refine esc_index (m := 8) (e := 51) (by rw [hP]; kernel_rfl) (by rw [hP]; kernel_rfl) (by rw [hP]; kernel_rfl) rfl (c := 4) rfl (by decide) rfl ?_
      conv => whnf
      (repeat' (first | (refine And.intro (by (first | omega | assumption | (simp only [nadd_eq]; omega) | (simp [nadd_eq]; omega))) ?_; conv => whnf) | (refine arI64 (by omega) (by omega) ?_; conv => whnf) | (refine arU32 (by omega) (by omega) ?_; conv => whnf) | (refine arU8 (by omega) (by omega) ?_; conv => whnf)))
      refine ⟨5, by omega, by omega, ?_⟩
      conv => whnf
      refine Imp.trans (imp_ghost (GSpec.reob 9 [1] (OptR (lb cn 8 4) (inR1 l (cn 4) (l3 l cn p0 4).1)) rfl (fun j hj => by rw [List.mem_singleton.1 hj]; exact Nat.le_of_ble_eq_true rfl) (optR_stable (inR1_stable _ _ _)) (fun ls ls2 lc F w hh => optR_not hb hh))) ?_
      refine imp_intro hA [0, 1, 2, 3, 4, 5, 6, 7, 8, 9, 10, 11, 12] rfl rfl rfl regs_a ?_ rfl
      exact ⟨⟨rfl, .inl rfl⟩, ⟨rfl, .inl rfl⟩, ⟨rfl, .inl rfl⟩, ⟨rfl, .inl rfl⟩, ⟨rfl, .inl rfl⟩, ⟨rfl, .inl rfl⟩, ⟨rfl, .inl rfl⟩, ⟨rfl, .inl rfl⟩, has_a⟩
  · have hu := inUse_spec l hl (cn 5) (l3 l cn p0 5).1
    cases hb : lb cn 8 5 with
    | true =>
      conv => whnf
      (refine join_plain ?_; conv => whnf)
      refine esc_index (m := 8) (e := 51) (by rw [hP]; kernel_rfl) (by rw [hP]; kernel_rfl) (by rw [hP]; kernel_rfl) rfl (c := 5) rfl (by decide) rfl ?_
      conv => whnf
      refine inv_io rfl (inv_own hP (invUse_in l hl) ?_)
      (refine call_auto hP (hu) ?_; conv => whnf); refine ⟨⟨rfl, rfl, rfl, ?_, rfl, rfl⟩, ?_⟩
      · exact ⟨⟨rfl, .inr ⟨inR0_stable _ _ _, fun ls lc F w hh => hh.1 hb⟩⟩, trivial⟩
      conv => whnf
      (repeat' (first | (refine And.intro (by (first | omega | assumption | (simp only [nadd_eq]; omega) | (simp [nadd_eq]; omega))) ?_; conv => whnf) | (refine arI64 (by omega) (by omega) ?_; conv => whnf) | (refine arU32 (by omega) (by omega) ?_; conv => whnf) | (refine arU8 (by omega) (by omega) ?_; conv => whnf)))
      refine ⟨6, by omega, by omega, ?_⟩
      conv => whnf
      refine imp_intro hA [0, 1, 2, 3, 4, 5, 6, 7, 8, 9, 10, 11, 12] rfl rfl rfl regs_a ?_ rfl
      exact ⟨⟨rfl, .inl rfl⟩, ⟨rfl, .inl rfl⟩, ⟨rfl, .inl rfl⟩, ⟨rfl, .inl rfl⟩, ⟨rfl, .inl rfl⟩, ⟨rfl, .inr ⟨optR_stable (inR1_stable _ _ _), fun ls lc F w hh => optR_of hb hh⟩⟩, ⟨rfl, .inl rfl⟩, ⟨rfl, .inl rfl⟩, has_a⟩
    | false =>
      conv => whnf
      (refine join_plain ?_; conv => whnf)
      refine esc_index (m := 8) (e := 51) (by rw [hP]; kernel_rfl) (by rw [hP]; kernel_rfl) (by rw [hP]; kernel_rfl) rfl (c := 5) rfl (by decide) rfl ?_
      conv => whnf
      (repeat' (first | (refine And.intro (by (first | omega | assumption | (simp only [nadd_eq]; omega) | (simp [nadd_eq]; omega))) ?_; conv => whnf) | (refine arI64 (by omega) (by omega) ?_; conv => whnf) | (refine arU32 (by omega) (by omega) ?_; conv => whnf) | (refine arU8 (by omega) (by omega) ?_; conv => whnf)))
      refine ⟨6, by omega, by omega, ?_⟩
      conv => whnf
      refine Imp.trans (imp_ghost (GSpec.reob 10 [1] (OptR (lb cn 8 5) (inR1 l (cn 5) (l3 l cn p0 5).1)) rfl (fun j hj => by rw [List.mem_singleton.1 hj]; exact Nat.le_of_ble_eq_true rfl) (optR_stable (inR1_stable _ _ _)) (fun ls ls2 lc F w hh => optR_not hb hh))) ?_
      refine imp_intro hA [0, 1, 2, 3, 4, 5, 6, 7, 8, 9, 10, 11, 12] rfl rfl rfl regs_a ?_ rfl
      exact ⟨⟨rfl, .inl rfl⟩, ⟨rfl, .inl rfl⟩, ⟨rfl, .inl rfl⟩, ⟨rfl, .inl rfl⟩, ⟨rfl, .inl rfl⟩, ⟨rfl, .inl rfl⟩, ⟨rfl, .inl rfl⟩, ⟨rfl, .inl rfl⟩, has_a⟩
  · have hu := inUse_spec l hl (cn 6) (l3 l cn p0 6).1
    cases hb : lb cn 8 6 with
    | true =>
      conv => whnf
      (refine join_plain ?_; conv => whnf)
      refine esc_index (m := 8) (e := 51) (by rw [hP]; kernel_rfl) (by rw [hP]; kernel_rfl) (by rw [hP]; kernel_rfl) rfl (c := 6) rfl (by decide) rfl ?_
      conv => whnf
      refine inv_io rfl (inv_own hP (invUse_in l hl) ?_)
      (refine call_auto hP (hu) ?_; conv => whnf); refine ⟨⟨rfl, rfl, rfl, ?_, rfl, rfl⟩, ?_⟩
      · exact ⟨⟨rfl, .inr ⟨inR0_stable _ _ _, fun ls lc F w hh => hh.1 hb⟩⟩, trivial⟩
      conv => whnf
      (repeat' (first | (refine And.intro (by (first | omega | assumption | (simp only [nadd_eq]; omega) | (simp [nadd_eq]; omega))) ?_; conv => whnf) | (refine arI64 (by omega) (by omega) ?_; conv => whnf) | (refine arU32 (by omega) (by omega) ?_; conv => whnf) | (refine arU8 (by omega) (by omega) ?_; conv => whnf)))
      refine ⟨7, by omega, by omega, ?_⟩
      conv => whnf
      refine imp_intro hA [0, 1, 2, 3, 4, 5, 6, 7, 8, 9, 10, 11, 12] rfl rfl rfl regs_a ?_ rfl
      exact ⟨⟨rfl, .inl rfl⟩, ⟨rfl, .inl rfl⟩, ⟨rfl, .inl rfl⟩, ⟨rfl, .inl rfl⟩, ⟨rfl, .inl rfl⟩, ⟨rfl, .inl rfl⟩, ⟨rfl, .inr ⟨optR_stable (inR1_stable _ _ _), fun ls lc F w hh => optR_of hb hh⟩⟩, ⟨rfl, .inl rfl⟩, has_a⟩
    | false =>
      conv => whnf
      (refine join_plain ?_; conv => whnf)
      refine esc_index (m := 8) (e := 51) (by rw [hP]; kernel_rfl) (by rw [hP]; kernel_rfl) (by rw [hP]; kernel_rfl) rfl (c := 6) rfl (by decide) rfl ?_
      conv => whnf
      (repeat' (first | (refine And.intro (by (first | omega | assumption | (simp only [nadd_eq]; omega) | (simp [nadd_eq]; omega))) ?_; conv => whnf) | (refine arI64 (by omega) (by omega) ?_; conv => whnf) | (refine arU32 (by omega) (by omega) ?_; conv => whnf) | (refine arU8 (by omega) (by omega) ?_; conv => whnf)))
      refine ⟨7, by omega, by omega, ?_⟩
      conv => whnf
      refine Imp.trans (imp_ghost (GSpec.reob 11 [1] (OptR (lb cn 8 6) (inR1 l (cn 6) (l3 l cn p0 6).1)) rfl (fun j hj => by rw [List.mem_singleton.1 hj]; exact Nat.le_of_ble_eq_true rfl) (optR_stable (inR1_stable _ _ _)) (fun ls ls2 lc F w hh => optR_not hb hh))) ?_
      refine imp_intro hA [0, 1, 2, 3, 4, 5, 6, 7, 8, 9, 10, 11, 12] rfl rfl rfl regs_a ?_ rfl
      exact ⟨⟨rfl, .inl rfl⟩, ⟨rfl, .inl rfl⟩, ⟨rfl, .inl rfl⟩, ⟨rfl, .inl rfl⟩, ⟨rfl, .inl rfl⟩, ⟨rfl, .inl rfl⟩, ⟨rfl, .inl rfl⟩, ⟨rfl, .inl rfl⟩, has_a⟩
  · have hu := inUse_spec l hl (cn 7) (l3 l cn p0 7).1
    cases hb : lb cn 8 7 with
    | true =>
      conv => whnf
      (refine join_plain ?_; conv => whnf)
      refine esc_index (m := 8) (e := 51) (by rw [hP]; kernel_rfl) (by rw [hP]; kernel_rfl) (by rw [hP]; kernel_rfl) rfl (c := 7) rfl (by decide) rfl ?_
      conv => whnf
      refine inv_io rfl (inv_own hP (invUse_in l hl) ?_)
      (refine call_auto hP (hu) ?_; conv => whnf); refine ⟨⟨rfl, rfl, rfl, ?_, rfl, rfl⟩, ?_⟩
      · exact ⟨⟨rfl, .inr ⟨inR0_stable _ _ _, fun ls lc F w hh => hh.1 hb⟩⟩, trivial⟩
      conv => whnf
      (repeat' (first | (refine And.intro (by (first | omega | assumption | (simp only [nadd_eq]; omega) | (simp [nadd_eq]; omega))) ?_; conv => whnf) | (refine arI64 (by omega) (by omega) ?_; conv => whnf) | (refine arU32 (by omega) (by omega) ?_; conv => whnf) | (refine arU8 (by omega) (by omega) ?_; conv => whnf)))
      refine ⟨8, by omega, by omega, ?_⟩
      conv => whnf
      refine imp_intro hA [0, 1, 2, 3, 4, 5, 6, 7, 8, 9, 10, 11, 12] rfl rfl rfl regs_a ?_ rfl
      exact ⟨⟨rfl, .inl rfl⟩, ⟨rfl, .inl rfl⟩, ⟨rfl, .inl rfl⟩, ⟨rfl, .inl rfl⟩, ⟨rfl, .inl rfl⟩, ⟨rfl, .inl rfl⟩, ⟨rfl, .inl rfl⟩, ⟨rfl, .inr ⟨optR_stable (inR1_stable _ _ _), fun ls lc F w hh => optR_of hb hh⟩⟩, has_a⟩
    | false =>
      conv => whnf
      (refine join_plain ?_; conv => whnf)
      refine esc_index (m := 8) (e := 51) (by rw [hP]; kernel_rfl) (by rw [hP]; kernel_rfl) (by rw [hP]; kernel_rfl) rfl (c := 7) rfl (by decide) rfl ?_
      conv => whnf
      (repeat' (first | (refine And.intro (by (first | omega | assumption | (simp only [nadd_eq]; omega) | (simp [nadd_eq]; omega))) ?_; conv => whnf) | (refine arI64 (by omega) (by omega) ?_; conv => whnf) | (refine arU32 (by omega) (by omega) ?_; conv => whnf) | (refine arU8 (by omega) (by omega) ?_; conv => whnf)))
      refine ⟨8, by omega, by omega, ?_⟩
      conv => whnf
      refine Imp.trans (imp_ghost (GSpec.reob 12 [1] (OptR (lb cn 8 7) (inR1 l (cn 7) (l3 l cn p0 7).1)) rfl (fun j hj => by rw [List.mem_singleton.1 hj]; exact Nat.le_of_ble_eq_true rfl) (optR_stable (inR1_stable _ _ _)) (fun ls ls2 lc F w hh => optR_not hb hh))) ?_
      refine imp_intro hA [0, 1, 2, 3, 4, 5, 6, 7, 8, 9, 10, 11, 12] rfl rfl rfl regs_a ?_ rfl
      exact ⟨⟨rfl, .inl rfl⟩, ⟨rfl, .inl rfl⟩, ⟨rfl, .inl rfl⟩, ⟨rfl, .inl rfl⟩, ⟨rfl, .inl rfl⟩, ⟨rfl, .inl rfl⟩, ⟨rfl, .inl rfl⟩, ⟨rfl, .inl rfl⟩, has_a⟩
  · conv => whnf
    refine finP_ghost (close_at [0, 1, 2, 3, 4, 5, 6, 7, 8, 9, 10, 11, 12] (H := cohH1 m M g l bu cn p0 pl) (np := 13) 1 rfl (by decide) rfl rfl ?_ rfl) (Nat.le_of_ble_eq_true rfl) ?_
    · exact has_a
    · (refine fin_auto ?_; conv => whnf); exact ⟨rfl, rfl, rfl, rfl, has_a, rfl⟩
theorem invUse_cohort (v : Value) (args : Array Value) (w : World) : (callMethod (.iface 239 v) "Use" args).run Tryz.prog w = .ok (.enter 272 (#[v] ++ args)) w := by kernel_rfl
theorem inHs_good {k m M : Nat} {hs h : Nat → Int} (hk : isIn k) (hm : 1 ≤ m) (hf : ∀ j, j < M → badH (hs j) = false) (hb : ∀ i, i < m → badH (h i) = false) (j : Nat) (hj : j < M + inN k m) : badH (inHs k hs M h m j) = false := by
  rcases hk with rfl | rfl | rfl
  · exact tail_all (Q := fun x => badH x = false) (fun j hj => tail_all (Q := fun x => badH x = false) hf (hb 0 hm) j) (hb 0 hm) j
  · exact snoc_all (Q := fun x => badH x = false) (m := M + 2) (fun j hj => tail_all (Q := fun x => badH x = false) (fun j hj => tail_all (Q := fun x => badH x = false) hf (hb 0 hm) j) (hb 0 hm) j) m hb j (by simp only [inN] at hj; omega)
  · exact rows_all (Q := fun x => badH x = false) (q := 2) (m := M + 1) (fun j hj => tail_all (Q := fun x => badH x = false) hf (hb 0 hm) j) m hb j (by simp only [inN] at hj; omega)
theorem l3_good {l : Nat} {cn : Nat → Nat} {p0 : Nat × (Nat → Int) × (Nat → Int)} (hl : isIn l) (hp : ∀ j, j < p0.1 → badH (p0.2.1 j) = false) : ∀ i, i ≤ 8 → ∀ j, j < (l3 l cn p0 i).1 → badH ((l3 l cn p0 i).2.1 j) = false
  | 0, _ => hp
  | i + 1, hi => by
    have ih := l3_good (cn := cn) hl hp i (by omega)
    cases h : Nat.blt 0 (cn i) with
    | true =>
      rw [l3_yes h]
      exact inHs_good hl (Nat.le_of_ble_eq_true h) ih fun _ _ => by unfold badH; simp; omega
    | false => rw [l3_no h]; exact ih
theorem p0_good (g : Nat) (hs ws : Nat → Int) (hg : isIn g) (j : Nat) (hj : j < (p0F 0 g hs ws).1) : badH ((p0F 0 g hs ws).2.1 j) = false := by
  refine inHs_good hg (by omega) (fun j hj => ?_) (fun i hi => by unfold badH; simp; omega) j hj
  refine snoc_all (Q := fun x => badH x = false) (m := 0) (fun j hj => absurd hj (Nat.not_lt_zero j)) 8 (fun i hi => by unfold badH; simp; omega) j hj
def cohN (m g l : Nat) (h : Nat → Int) : Nat := (l3 l (cnt h m) (p0F 0 g (fun _ => 0) fun _ => 0) 8).1
def cohHs (m g l : Nat) (h : Nat → Int) : Nat → Int := (l3 l (cnt h m) (p0F 0 g (fun _ => 0) fun _ => 0) 8).2.1
def cohWs (m g l : Nat) (h : Nat → Int) : Nat → Int := (l3 l (cnt h m) (p0F 0 g (fun _ => 0) fun _ => 0) 8).2.2
theorem cohN_le (m g l : Nat) (h : Nat → Int) (hm : m ≤ 64) : cohN m g l h ≤ 1066 := by
  have h1 := l3_le (l := l) (p0 := p0F 0 g (fun _ => 0) fun _ => 0) (cn := cnt h m) (fun j => Nat.le_trans (cnt_le h m j) hm) 8
  have h2 := inN_le g 8
  have h3 : (p0F 0 g (fun _ => 0) fun _ => 0).1 = 0 + 8 + inN g 8 := rfl
  unfold cohN
  omega
theorem lay7_bad (th : Int) (hs ws h : Nat → Int) (m : Nat) (start slots pool budget glob loc : Int) (hm : m ≤ 80) (hb : m < 1 ∨ 64 < m ∨ anyZ badH h m = true) :
    FSpec Tryz.prog 64 [(0, some (planP th 0 hs ws)), (1, some (.ro 1 m (numE h)))] 2 [.l (.p 0 0 0 0), confA 7 1 m start slots pool budget glob loc] fun x h' k =>
      x = .t [.l (.v (.iface 239 (.pointer none))), .l (.v (.int .i64 1))] ∧ k = 2 ∧ h' = [(0, some (planP th 0 hs ws))] := by
  have hcn := cohNew_bad th 0 hs ws h m glob loc budget hm hb
  refine spec_of_ev Tryz.func64 ic64_eq (rs := [.t 4, .t 5]) (by kernel_rfl) (by kernel_rfl) (by kernel_rfl) fun G hP hA => ?_
  unfold evF ic64
  conv => whnf
  (refine call_auto hP (hcn) ?_; conv => whnf); (refine ⟨⟨rfl, rfl, rfl, has_a, rfl, rfl⟩, ?_⟩; conv => whnf)
  (refine fin_auto ?_; conv => whnf); exact ⟨rfl, rfl, rfl, rfl, has_a, rfl⟩
theorem lay7_none (th : Int) (hs ws h : Nat → Int) (m : Nat) (start slots pool budget glob loc : Int) (hm : 1 ≤ m ∧ m ≤ 64) (hb : anyZ badH h m = false) (hn : anyZ (fun x => decide (glob = x)) gl2 2 = false ∨ anyZ (fun x => decide (loc = x)) loc3 3 = false ∨ budget < 1 ∨ 1000 < budget) :
    FSpec Tryz.prog 64 [(0, some (planP th 0 hs ws)), (1, some (.ro 1 m (numE h)))] 2 [.l (.p 0 0 0 0), confA 7 1 m start slots pool budget glob loc] fun x h' k =>
      x = .t [.l (.v (.iface 239 (.pointer none))), .l (.v (.int .i64 7))] ∧ k = 2 ∧ h' = [(0, some (planP th 0 hs ws))] := by
  have hcn := cohNew_none th 0 hs ws h m glob loc budget hm hb hn
  refine spec_of_ev Tryz.func64 ic64_eq (rs := [.t 4, .t 5]) (by kernel_rfl) (by kernel_rfl) (by kernel_rfl) fun G hP hA => ?_
  unfold evF ic64
  conv => whnf
  (refine call_auto hP (hcn) ?_; conv => whnf); (refine ⟨⟨rfl, rfl, rfl, has_a, rfl, rfl⟩, ?_⟩; conv => whnf)
  (refine fin_auto ?_; conv => whnf); exact ⟨rfl, rfl, rfl, rfl, has_a, rfl⟩
theorem lay7_ok (th : Int) (h : Nat → Int) (m g l : Nat) (start slots pool budget : Int) (hm : 1 ≤ m ∧ m ≤ 64) (hb : anyZ badH h m = false) (hg : g = 1 ∨ g = 4) (hl : isIn l) (hbu : 1 ≤ budget ∧ budget ≤ 1000) :
    FSpec Tryz.prog 64 [(0, some (planP th 0 (fun _ => 0) fun _ => 0)), (1, some (.ro 1 m (numE h)))] 2 [.l (.p 0 0 0 0), confA 7 1 m start slots pool budget g l] fun x h' k =>
      x = .t [.l (.i 239 2), .l (.v (.int .i64 0))] ∧ k = 3 ∧ h' = [(0, some (planP th (cohN m g l h) (cohHs m g l h) (cohWs m g l h))), (2, some (cohP0 m 0 g l budget (cnt h m) (p0F 0 g (fun _ => 0) fun _ => 0) (placeI h m)))] := by
  have hcn := cohNew_ok th 0 (fun _ => 0) (fun _ => 0) h m g l budget (by omega) hm hb hg hl hbu
  refine spec_of_ev Tryz.func64 ic64_eq (rs := [.t 4, .t 5]) (by kernel_rfl) (by kernel_rfl) (by kernel_rfl) fun G hP hA => ?_
  unfold evF ic64
  conv => whnf
  (refine call_auto hP (hcn) ?_; conv => whnf); (refine ⟨⟨rfl, rfl, rfl, has_a, rfl, rfl⟩, ?_⟩; conv => whnf)
  (refine fin_auto ?_; conv => whnf); exact ⟨rfl, rfl, rfl, rfl, has_a, rfl⟩
theorem buildNew7_ok (h : Nat → Int) (m g l : Nat) (start slots pool budget : Int) (hm : 1 ≤ m ∧ m ≤ 64) (hb : anyZ badH h m = false) (hg : g = 1 ∨ g = 4) (hl : isIn l) (hbu : 1 ≤ budget ∧ budget ≤ 1000) :
    FSpec Tryz.prog 33 [(0, some (.ro 1 m (numE h)))] 1 [confA 7 0 m start slots pool budget g l] fun x h' k =>
      x = .t [.l (.i 239 1), .l (.p 2 0 0 0), .l (.v (.int .i64 0))] ∧ k = 3 ∧ h' = [(1, some (.ob [2] (PackR (cohH1 m 0 g l budget (cnt h m) (p0F 0 g (fun _ => 0) fun _ => 0) (placeI h m)) 13))),
        (2, some (portP m (cohN m g l h) (cutF (cohWs m g l h) (cohN m g l h)) (cohHs m g l h) (fun _ => 0) (fun _ => 0) (fun _ => 0) fun _ => 0))] := by
  have hgi : isIn g := by unfold isIn; omega
  have hpn := planNew_spec (m : Int) (fun _ => 0) fun _ => 0
  have hly := lay7_ok (m : Int) h m g l start slots pool budget hm hb hg hl hbu
  have hpp := planPort_ok m (cohN m g l h) (cohHs m g l h) (cohWs m g l h) hm (Nat.le_trans (cohN_le m g l h hm.2) (by decide)) (anyZ_false.2 (l3_good hl (p0_good g _ _ hgi) 8 (Nat.le_refl 8)))
  have hu := cohUse_spec m 0 g l budget (cnt h m) (p0F 0 g (fun _ => 0) fun _ => 0) (placeI h m) hgi hl
  refine spec_of_ev Tryz.func33 ic33_eq (rs := [.t 2, .t 3, .t 4]) (by kernel_rfl) (by kernel_rfl) (by kernel_rfl) fun G hP hA => ?_
  unfold evF ic33
  conv => whnf
  (repeat' (first | (refine And.intro (by (first | omega | assumption | (simp only [nadd_eq]; omega) | (simp [nadd_eq]; omega))) ?_; conv => whnf) | (refine arI64 (by omega) (by omega) ?_; conv => whnf) | (refine arU32 (by omega) (by omega) ?_; conv => whnf) | (refine arU8 (by omega) (by omega) ?_; conv => whnf)))
  (refine call_auto hP (hpn) ?_; conv => whnf); (refine ⟨⟨rfl, rfl, rfl, has_a, rfl, rfl⟩, ?_⟩; conv => whnf)
  (refine call_auto hP (hly) ?_; conv => whnf); (refine ⟨⟨rfl, rfl, rfl, has_a, rfl, rfl⟩, ?_⟩; conv => whnf)
  (refine call_auto hP (hpp) ?_; conv => whnf); (refine ⟨⟨rfl, rfl, rfl, has_a, rfl, rfl⟩, ?_⟩; conv => whnf)
  refine inv_own hP invUse_cohort ?_
  (refine call_auto hP (hu) ?_; conv => whnf); (refine ⟨⟨rfl, rfl, rfl, has_a, rfl, rfl⟩, ?_⟩; conv => whnf)
  (refine fin_auto ?_; conv => whnf); exact ⟨rfl, rfl, rfl, rfl, has_a, rfl⟩
end Go.Proofs.YtlkfolopbehikaaGreat
set_option linter.unusedSimpArgs false
set_option linter.unusedVariables false
namespace Go.Proofs.YtlkfolopbehikaaGreat
open Go Go.Sx

def sizeB (n : Int) : Bool := decide (n = 1) || decide (n = 2) || decide (n = 4) || decide (n = 8) || decide (n = 16) || decide (n = 32) || decide (n = 64)
theorem sizeB_sizN (n : Int) : anyZ (fun x => decide (n = x)) sizN 7 = sizeB n := by
  simp only [anyZ, sizN, sizeB, Bool.false_or]
theorem sizeB_is {n : Int} (h : sizeB n = true) : ∃ k : Nat, n = k ∧ isSize k := by
  simp only [sizeB, Bool.or_eq_true, decide_eq_true_eq] at h
  refine ⟨n.toNat, by omega, ?_⟩
  unfold isSize
  omega
set_option maxRecDepth 4000 in
theorem refSize_spec (n : Int) : FSpec Tryz.prog 54 [] 0 [.l (.v (.int .i64 n))] fun x h k => x = sBool (sizeB n) ∧ k = 0 ∧ h = [] := by
  refine spec_of_ev Tryz.func54 ic54_eq (rs := [.t 2]) (by kernel_rfl) (by kernel_rfl) (by kernel_rfl) fun G hP hA => ?_
  unfold evF ic54
  conv => whnf
  refine loop_auto (α := Nat) (ds := []) (N := 0) (fun i => [(3, sInt .i64 (sizN i))]) [] (fun _ => [])
    (fun i => i ≤ 7 ∧ ∀ j, j < i → n ≠ sizN j) (fun i => 7 - i) 0 ⟨Nat.zero_le _, fun j hj => absurd hj (Nat.not_lt_zero j)⟩ ?_ fun i hi => ?_
  · (conv => whnf); (refine imp_auto hA ?_; conv => whnf); exact ⟨rfl, rfl, rfl, regs_a, has_a, rfl⟩
  · obtain ⟨hi, hn⟩ := hi
    have next : ∀ {i : Nat}, (∀ j, j < i → n ≠ sizN j) → ¬ sizN i = n → ∀ j, j < i + 1 → n ≠ sizN j := fun {i} hn h j hj => by
      rcases Nat.lt_succ_iff_lt_or_eq.1 hj with hj | rfl
      · exact hn j hj
      · exact fun e => h e.symm
    rcases (show i = 0 ∨ i = 1 ∨ i = 2 ∨ i = 3 ∨ i = 4 ∨ i = 5 ∨ i = 6 ∨ i = 7 by omega) with rfl | rfl | rfl | rfl | rfl | rfl | rfl | rfl
    · conv => whnf
      refine dsplit (fun h1 => ?_) (fun h1 => ?_)
      · replace h1 : sizN 0 = n := h1
        subst h1
        conv => whnf
        (refine fin_auto ?_; conv => whnf); refine ⟨rfl, rfl, rfl, bool_fin ?_, has_a, rfl⟩
        rfl
      · conv => whnf
        (repeat' (first | (refine And.intro (by (first | omega | assumption | (simp only [nadd_eq]; omega) | (simp [nadd_eq]; omega))) ?_; conv => whnf) | (refine arI64 (by omega) (by omega) ?_; conv => whnf) | (refine arU32 (by omega) (by omega) ?_; conv => whnf) | (refine arU8 (by omega) (by omega) ?_; conv => whnf)))
        refine ⟨1, ⟨by omega, next hn h1⟩, by omega, ?_⟩
        (conv => whnf); (refine imp_auto hA ?_; conv => whnf); exact ⟨rfl, rfl, rfl, regs_a, has_a, rfl⟩
    · conv => whnf
      refine dsplit (fun h1 => ?_) (fun h1 => ?_)
      · replace h1 : sizN 1 = n := h1
        subst h1
        conv => whnf
        (refine fin_auto ?_; conv => whnf); refine ⟨rfl, rfl, rfl, bool_fin ?_, has_a, rfl⟩
        rfl
      · conv => whnf
        (repeat' (first | (refine And.intro (by (first | omega | assumption | (simp only [nadd_eq]; omega) | (simp [nadd_eq]; omega))) ?_; conv => whnf) | (refine arI64 (by omega) (by omega) ?_; conv => whnf) | (refine arU32 (by omega) (by omega) ?_; conv => whnf) | (refine arU8 (by omega) (by omega) ?_; conv => whnf)))
        refine ⟨2, ⟨by omega, next hn h1⟩, by omega, ?_⟩
        (conv => whnf); (refine imp_auto hA ?_; conv => whnf); exact ⟨rfl, rfl, rfl, regs_a, has_a, rfl⟩
    · conv => whnf
      refine dsplit (fun h1 => ?_) (fun h1 => ?_)
      · replace h1 : sizN 2 = n := h1
        subst h1
        conv => whnf
        (refine fin_auto ?_; conv => whnf); refine ⟨rfl, rfl, rfl, bool_fin ?_, has_a, rfl⟩
        rfl
      · conv => whnf
        (repeat' (first | (refine And.intro (by (first | omega | assumption | (simp only [nadd_eq]; omega) | (simp [nadd_eq]; omega))) ?_; conv => whnf) | (refine arI64 (by omega) (by omega) ?_; conv => whnf) | (refine arU32 (by omega) (by omega) ?_; conv => whnf) | (refine arU8 (by omega) (by omega) ?_; conv => whnf)))
        refine ⟨3, ⟨by omega, next hn h1⟩, by omega, ?_⟩
        (conv => whnf); (refine imp_auto hA ?_; conv => whnf); exact ⟨rfl, rfl, rfl, regs_a, has_a, rfl⟩
    · conv => whnf
      refine dsplit (fun h1 => ?_) (fun h1 => ?_)
      · replace h1 : sizN 3 = n := h1
        subst h1
        conv => whnf
        (refine fin_auto ?_; conv => whnf); refine ⟨rfl, rfl, rfl, bool_fin ?_, has_a, rfl⟩
        rfl
      · conv => whnf
        (repeat' (first | (refine And.intro (by (first | omega | assumption | (simp only [nadd_eq]; omega) | (simp [nadd_eq]; omega))) ?_; conv => whnf) | (refine arI64 (by omega) (by omega) ?_; conv => whnf) | (refine arU32 (by omega) (by omega) ?_; conv => whnf) | (refine arU8 (by omega) (by omega) ?_; conv => whnf)))
        refine ⟨4, ⟨by omega, next hn h1⟩, by omega, ?_⟩
        (conv => whnf); (refine imp_auto hA ?_; conv => whnf); exact ⟨rfl, rfl, rfl, regs_a, has_a, rfl⟩
    · conv => whnf
      refine dsplit (fun h1 => ?_) (fun h1 => ?_)
      · replace h1 : sizN 4 = n := h1
        subst h1
        conv => whnf
        (refine fin_auto ?_; conv => whnf); refine ⟨rfl, rfl, rfl, bool_fin ?_, has_a, rfl⟩
        rfl
      · conv => whnf
        (repeat' (first | (refine And.intro (by (first | omega | assumption | (simp only [nadd_eq]; omega) | (simp [nadd_eq]; omega))) ?_; conv => whnf) | (refine arI64 (by omega) (by omega) ?_; conv => whnf) | (refine arU32 (by omega) (by omega) ?_; conv => whnf) | (refine arU8 (by omega) (by omega) ?_; conv => whnf)))
        refine ⟨5, ⟨by omega, next hn h1⟩, by omega, ?_⟩
        (conv => whnf); (refine imp_auto hA ?_; conv => whnf); exact ⟨rfl, rfl, rfl, regs_a, has_a, rfl⟩
    · conv => whnf
      refine dsplit (fun h1 => ?_) (fun h1 => ?_)
      · replace h1 : sizN 5 = n := h1
        subst h1
        conv => whnf
        (refine fin_auto ?_; conv => whnf); refine ⟨rfl, rfl, rfl, bool_fin ?_, has_a, rfl⟩
        rfl
      · conv => whnf
        (repeat' (first | (refine And.intro (by (first | omega | assumption | (simp only [nadd_eq]; omega) | (simp [nadd_eq]; omega))) ?_; conv => whnf) | (refine arI64 (by omega) (by omega) ?_; conv => whnf) | (refine arU32 (by omega) (by omega) ?_; conv => whnf) | (refine arU8 (by omega) (by omega) ?_; conv => whnf)))
        refine ⟨6, ⟨by omega, next hn h1⟩, by omega, ?_⟩
        (conv => whnf); (refine imp_auto hA ?_; conv => whnf); exact ⟨rfl, rfl, rfl, regs_a, has_a, rfl⟩
    · conv => whnf
      refine dsplit (fun h1 => ?_) (fun h1 => ?_)
      · replace h1 : sizN 6 = n := h1
        subst h1
        conv => whnf
        (refine fin_auto ?_; conv => whnf); refine ⟨rfl, rfl, rfl, bool_fin ?_, has_a, rfl⟩
        rfl
      · conv => whnf
        (repeat' (first | (refine And.intro (by (first | omega | assumption | (simp only [nadd_eq]; omega) | (simp [nadd_eq]; omega))) ?_; conv => whnf) | (refine arI64 (by omega) (by omega) ?_; conv => whnf) | (refine arU32 (by omega) (by omega) ?_; conv => whnf) | (refine arU8 (by omega) (by omega) ?_; conv => whnf)))
        refine ⟨7, ⟨by omega, next hn h1⟩, by omega, ?_⟩
        (conv => whnf); (refine imp_auto hA ?_; conv => whnf); exact ⟨rfl, rfl, rfl, regs_a, has_a, rfl⟩
    · conv => whnf
      (refine fin_auto ?_; conv => whnf); refine ⟨rfl, rfl, rfl, bool_fin ?_, has_a, rfl⟩
      have := hn 0 (by omega)
      have := hn 1 (by omega)
      have := hn 2 (by omega)
      have := hn 3 (by omega)
      have := hn 4 (by omega)
      have := hn 5 (by omega)
      have := hn 6 (by omega)
      simp only [sizN] at *
      simp [sizeB, *]
theorem refHomes_spec (h : Nat → Int) (m : Nat) (hm : m ≤ 1000000) : FSpec Tryz.prog 53 [(0, some (.ro 1 m (numE h)))] 1 [.l (.s 0 1 0 m 0)] fun x h' k => x = sBool (!anyZ badH h m) ∧ k = 1 ∧ h' = [] := by
  refine spec_of_ev Tryz.func53 ic53_eq (rs := [.t 2]) (by kernel_rfl) (by kernel_rfl) (by kernel_rfl) fun G hP hA => ?_
  unfold evF ic53
  conv => whnf
  refine loop_auto (α := Nat) (ds := []) (N := 1) (fun i => [(7, sInt .i64 (i : Int))]) [] (fun _ => []) (fun i => i ≤ m ∧ anyZ badH h i = false) (fun i => m - i) 0 ⟨Nat.zero_le _, rfl⟩ ?_ fun i hi => ?_
  · (conv => whnf); (refine imp_auto hA ?_; conv => whnf); exact ⟨rfl, rfl, rfl, regs_a, has_a, rfl⟩
  · obtain ⟨hi0, hi1⟩ := hi
    have hni : nadd 0 ((i : Nat) : Int).toNat = i := by simp [nadd_eq]
    conv => whnf
    refine dsplit (fun h2 => ?_) (fun h2 => ?_)
    · replace h2 : (i : Int) < (m : Int) := h2
      conv => whnf
      (repeat' (first | (refine And.intro (by (first | omega | assumption | (simp only [nadd_eq]; omega) | (simp [nadd_eq]; omega))) ?_; conv => whnf) | (refine arI64 (by omega) (by omega) ?_; conv => whnf) | (refine arU32 (by omega) (by omega) ?_; conv => whnf) | (refine arU8 (by omega) (by omega) ?_; conv => whnf)))
      rw [hni]
      conv => whnf
      refine dsplit (fun h3 => ?_) (fun h3 => ?_)
      · have hb : badH (h i) = true := by unfold badH; rw [decide_eq_true h3]; rfl
        conv => whnf
        (refine fin_auto ?_; conv => whnf); refine ⟨rfl, rfl, rfl, bool_fin ?_, has_a, rfl⟩
        rw [any_mono (show i < m by omega) hb]; rfl
      · conv => whnf
        refine dsplit (fun h4 => ?_) (fun h4 => ?_)
        · have hb : badH (h i) = true := by unfold badH; rw [decide_eq_true (show 8 ≤ h i by have : 7 < h i := h4; omega), Bool.or_true]
          conv => whnf
          (refine fin_auto ?_; conv => whnf); refine ⟨rfl, rfl, rfl, bool_fin ?_, has_a, rfl⟩
          rw [any_mono (show i < m by omega) hb]; rfl
        · conv => whnf
          (repeat' (first | (refine And.intro (by (first | omega | assumption | (simp only [nadd_eq]; omega) | (simp [nadd_eq]; omega))) ?_; conv => whnf) | (refine arI64 (by omega) (by omega) ?_; conv => whnf) | (refine arU32 (by omega) (by omega) ?_; conv => whnf) | (refine arU8 (by omega) (by omega) ?_; conv => whnf)))
          refine ⟨i + 1, ⟨by omega, ?_⟩, by omega, ?_⟩
          · have h5 : ¬ 7 < h i := h4
            simp only [anyZ, hi1, Bool.false_or, badH, decide_eq_false h3, decide_eq_false (show ¬ 8 ≤ h i by omega)]
          · (conv => whnf); (refine imp_auto hA ?_; conv => whnf); exact ⟨rfl, rfl, rfl, regs_a, has_a, rfl⟩
    · replace h2 : ¬ (i : Int) < (m : Int) := h2
      obtain rfl : i = m := by omega
      conv => whnf
      (refine fin_auto ?_; conv => whnf); refine ⟨rfl, rfl, rfl, bool_fin ?_, has_a, rfl⟩
      rw [hi1]; rfl
/-- What is wrong with a configuration; 0: nothing. -/
def checkZ (kind : Int) (m : Nat) (h : Nat → Int) (slots pool budget glob loc : Int) : Int :=
  if kind < 1 ∨ 7 < kind then 7 else if m < 1 ∨ 64 < m ∨ anyZ badH h m = true then 1 else
  if kind = 2 ∧ (sizeB slots = false ∨ slots < m) then 7 else if kind = 5 ∧ (pool < 1 ∨ 8 < pool) then 7 else
  if kind = 7 ∧ (¬ (glob = 1 ∨ glob = 4) ∨ ¬ (loc = 1 ∨ loc = 3 ∨ loc = 4) ∨ budget < 1 ∨ 1000 < budget) then 7 else 0
set_option maxRecDepth 4000 in
set_option maxHeartbeats 1000000 in
theorem check_spec (kind : Int) (m : Nat) (h : Nat → Int) (start slots pool budget glob loc : Int) (hm : m ≤ 80) :
    FSpec Tryz.prog 17 [(0, some (.ro 1 m (numE h)))] 1 [confA kind 0 m start slots pool budget glob loc] fun x h' k => x = sInt .i64 (checkZ kind m h slots pool budget glob loc) ∧ k = 1 ∧ h' = [] := by
  have hho := refHomes_spec h m (by omega)
  have hsz := refSize_spec slots
  refine spec_of_ev Tryz.func17 ic17_eq (rs := [.t 2]) (by kernel_rfl) (by kernel_rfl) (by kernel_rfl) fun G hP hA => ?_
  unfold evF ic17
  by_cases hk : kind < 1 ∨ 7 < kind
  · have hc : checkZ kind m h slots pool budget glob loc = 7 := by unfold checkZ; rw [if_pos hk]
    conv => whnf
    (repeat' (first | (refine join_plain ?_; conv => whnf) | (refine dsplit (fun _ => ?_) (fun _ => ?_) <;> conv => whnf)))
    all_goals first | (exfalso; omega) | skip
    all_goals ((refine fin_auto ?_; conv => whnf); refine ⟨rfl, rfl, rfl, int_fin ?_, has_a, rfl⟩; exact hc.symm)
  by_cases h1 : m < 1 ∨ 64 < m
  · have hc : checkZ kind m h slots pool budget glob loc = 1 := by unfold checkZ; rw [if_neg hk, if_pos (by omega)]
    conv => whnf
    (repeat' (first | (refine join_plain ?_; conv => whnf) | (refine dsplit (fun _ => ?_) (fun _ => ?_) <;> conv => whnf)))
    all_goals first | (exfalso; omega) | skip
    all_goals ((refine fin_auto ?_; conv => whnf); refine ⟨rfl, rfl, rfl, int_fin ?_, has_a, rfl⟩; exact hc.symm)
  cases hb : anyZ badH h m with
  | true =>
    have hc : checkZ kind m h slots pool budget glob loc = 1 := by unfold checkZ; rw [if_neg hk, if_pos (by simp [hb])]
    rw [hb] at hho
    conv => whnf
    (repeat' (first | (refine join_plain ?_; conv => whnf) | (refine dsplit (fun _ => ?_) (fun _ => ?_) <;> conv => whnf)))
    all_goals first | (exfalso; omega) | skip
    (refine call_auto hP (hho) ?_; conv => whnf); (refine ⟨⟨rfl, rfl, rfl, has_a, rfl, rfl⟩, ?_⟩; conv => whnf)
    (refine fin_auto ?_; conv => whnf); refine ⟨rfl, rfl, rfl, int_fin ?_, has_a, rfl⟩
    exact hc.symm
  | false =>
    rw [hb] at hho
    have hc0 : checkZ kind m h slots pool budget glob loc = if kind = 2 ∧ (sizeB slots = false ∨ slots < m) then 7 else if kind = 5 ∧ (pool < 1 ∨ 8 < pool) then 7 else
        if kind = 7 ∧ (¬ (glob = 1 ∨ glob = 4) ∨ ¬ (loc = 1 ∨ loc = 3 ∨ loc = 4) ∨ budget < 1 ∨ 1000 < budget) then 7 else 0 := by
      unfold checkZ; rw [if_neg hk, if_neg (by simp [hb]; omega)]
    rcases (show kind = 1 ∨ kind = 2 ∨ kind = 3 ∨ kind = 4 ∨ kind = 5 ∨ kind = 6 ∨ kind = 7 by omega) with rfl | rfl | rfl | rfl | rfl | rfl | rfl
    · have hc : checkZ 1 m h slots pool budget glob loc = 0 := by rw [hc0, if_neg (by omega), if_neg (by omega), if_neg (by omega)]
      conv => whnf
      (repeat' (first | (refine join_plain ?_; conv => whnf) | (refine dsplit (fun _ => ?_) (fun _ => ?_) <;> conv => whnf)))
      all_goals first | (exfalso; omega) | skip
      (refine call_auto hP (hho) ?_; conv => whnf); (refine ⟨⟨rfl, rfl, rfl, has_a, rfl, rfl⟩, ?_⟩; conv => whnf)
      (repeat' (first | (refine join_plain ?_; conv => whnf) | (refine dsplit (fun _ => ?_) (fun _ => ?_) <;> conv => whnf)))
      (refine fin_auto ?_; conv => whnf); refine ⟨rfl, rfl, rfl, int_fin ?_, has_a, rfl⟩
      exact hc.symm
    · cases hs : sizeB slots with
      | false =>
        rw [hs] at hsz
        have hc : checkZ 2 m h slots pool budget glob loc = 7 := by rw [hc0, if_pos ⟨rfl, .inl hs⟩]
        conv => whnf
        (repeat' (first | (refine join_plain ?_; conv => whnf) | (refine dsplit (fun _ => ?_) (fun _ => ?_) <;> conv => whnf)))
        all_goals first | (exfalso; omega) | skip
        (refine call_auto hP (hho) ?_; conv => whnf); (refine ⟨⟨rfl, rfl, rfl, has_a, rfl, rfl⟩, ?_⟩; conv => whnf)
        (repeat' (first | (refine join_plain ?_; conv => whnf) | (refine dsplit (fun _ => ?_) (fun _ => ?_) <;> conv => whnf)))
        (refine call_auto hP (hsz) ?_; conv => whnf); (refine ⟨⟨rfl, rfl, rfl, has_a, rfl, rfl⟩, ?_⟩; conv => whnf)
        (refine fin_auto ?_; conv => whnf); refine ⟨rfl, rfl, rfl, int_fin ?_, has_a, rfl⟩
        exact hc.symm
      | true =>
        rw [hs] at hsz
        conv => whnf
        (repeat' (first | (refine join_plain ?_; conv => whnf) | (refine dsplit (fun _ => ?_) (fun _ => ?_) <;> conv => whnf)))
        all_goals first | (exfalso; omega) | skip
        (refine call_auto hP (hho) ?_; conv => whnf); (refine ⟨⟨rfl, rfl, rfl, has_a, rfl, rfl⟩, ?_⟩; conv => whnf)
        (repeat' (first | (refine join_plain ?_; conv => whnf) | (refine dsplit (fun _ => ?_) (fun _ => ?_) <;> conv => whnf)))
        (refine call_auto hP (hsz) ?_; conv => whnf); (refine ⟨⟨rfl, rfl, rfl, has_a, rfl, rfl⟩, ?_⟩; conv => whnf)
        (repeat' (first | (refine join_plain ?_; conv => whnf) | (refine dsplit (fun _ => ?_) (fun _ => ?_) <;> conv => whnf)))
        all_goals ((refine fin_auto ?_; conv => whnf); refine ⟨rfl, rfl, rfl, int_fin ?_, has_a, rfl⟩; rw [hc0])
        · rename_i hh
          rw [if_pos ⟨rfl, .inr hh⟩]
        · rename_i hh
          rw [if_neg (fun hq => by rcases hq.2 with hq | hq; (rw [hs] at hq; cases hq); exact hh hq), if_neg (by omega), if_neg (by omega)]
    · have hc : checkZ 3 m h slots pool budget glob loc = 0 := by rw [hc0, if_neg (by omega), if_neg (by omega), if_neg (by omega)]
      conv => whnf
      (repeat' (first | (refine join_plain ?_; conv => whnf) | (refine dsplit (fun _ => ?_) (fun _ => ?_) <;> conv => whnf)))
      all_goals first | (exfalso; omega) | skip
      (refine call_auto hP (hho) ?_; conv => whnf); (refine ⟨⟨rfl, rfl, rfl, has_a, rfl, rfl⟩, ?_⟩; conv => whnf)
      (repeat' (first | (refine join_plain ?_; conv => whnf) | (refine dsplit (fun _ => ?_) (fun _ => ?_) <;> conv => whnf)))
      (refine fin_auto ?_; conv => whnf); refine ⟨rfl, rfl, rfl, int_fin ?_, has_a, rfl⟩
      exact hc.symm
    · have hc : checkZ 4 m h slots pool budget glob loc = 0 := by rw [hc0, if_neg (by omega), if_neg (by omega), if_neg (by omega)]
      conv => whnf
      (repeat' (first | (refine join_plain ?_; conv => whnf) | (refine dsplit (fun _ => ?_) (fun _ => ?_) <;> conv => whnf)))
      all_goals first | (exfalso; omega) | skip
      (refine call_auto hP (hho) ?_; conv => whnf); (refine ⟨⟨rfl, rfl, rfl, has_a, rfl, rfl⟩, ?_⟩; conv => whnf)
      (repeat' (first | (refine join_plain ?_; conv => whnf) | (refine dsplit (fun _ => ?_) (fun _ => ?_) <;> conv => whnf)))
      (refine fin_auto ?_; conv => whnf); refine ⟨rfl, rfl, rfl, int_fin ?_, has_a, rfl⟩
      exact hc.symm
    · conv => whnf
      (repeat' (first | (refine join_plain ?_; conv => whnf) | (refine dsplit (fun _ => ?_) (fun _ => ?_) <;> conv => whnf)))
      all_goals first | (exfalso; omega) | skip
      (refine call_auto hP (hho) ?_; conv => whnf); (refine ⟨⟨rfl, rfl, rfl, has_a, rfl, rfl⟩, ?_⟩; conv => whnf)
      (repeat' (first | (refine join_plain ?_; conv => whnf) | (refine dsplit (fun _ => ?_) (fun _ => ?_) <;> conv => whnf)))
      all_goals ((refine fin_auto ?_; conv => whnf); refine ⟨rfl, rfl, rfl, int_fin ?_, has_a, rfl⟩; rw [hc0, if_neg (by omega)])
      all_goals (repeat' split)
      all_goals first | rfl | (exfalso; omega)
    · have hc : checkZ 6 m h slots pool budget glob loc = 0 := by rw [hc0, if_neg (by omega), if_neg (by omega), if_neg (by omega)]
      conv => whnf
      (repeat' (first | (refine join_plain ?_; conv => whnf) | (refine dsplit (fun _ => ?_) (fun _ => ?_) <;> conv => whnf)))
      all_goals first | (exfalso; omega) | skip
      (refine call_auto hP (hho) ?_; conv => whnf); (refine ⟨⟨rfl, rfl, rfl, has_a, rfl, rfl⟩, ?_⟩; conv => whnf)
      (repeat' (first | (refine join_plain ?_; conv => whnf) | (refine dsplit (fun _ => ?_) (fun _ => ?_) <;> conv => whnf)))
      (refine fin_auto ?_; conv => whnf); refine ⟨rfl, rfl, rfl, int_fin ?_, has_a, rfl⟩
      exact hc.symm
    · conv => whnf
      (repeat' (first | (refine join_plain ?_; conv => whnf) | (refine dsplit (fun _ => ?_) (fun _ => ?_) <;> conv => whnf)))
      all_goals first | (exfalso; omega) | skip
      (refine call_auto hP (hho) ?_; conv => whnf); (refine ⟨⟨rfl, rfl, rfl, has_a, rfl, rfl⟩, ?_⟩; conv => whnf)
      (repeat' (first | (refine join_plain ?_; conv => whnf) | (refine dsplit (fun _ => ?_) (fun _ => ?_) <;> conv => whnf)))
      all_goals ((refine fin_auto ?_; conv => whnf); refine ⟨rfl, rfl, rfl, int_fin ?_, has_a, rfl⟩; rw [hc0, if_neg (by omega)])
      all_goals (repeat' split)
      all_goals first | rfl | (exfalso; omega)
end Go.Proofs.YtlkfolopbehikaaGreat
set_option linter.unusedSimpArgs false
set_option linter.unusedVariables false
namespace Go.Proofs.YtlkfolopbehikaaGreat
open Go Go.Sx

theorem lawRef_spec (kind : Int) (m : Nat) (h : Nat → Int) (start slots pool budget glob loc : Int) :
    FSpec Tryz.prog 18 [(0, some (.ro 1 m (numE h)))] 1 [confA kind 0 m start slots pool budget glob loc] fun x h' k => x = .o (confA kind 0 m start slots pool budget glob loc) ∧ k = 1 ∧ h' = [] := by
  refine spec_of_ev Tryz.func18 ic18_eq (rs := [.ca 2 8]) (by kernel_rfl) (by kernel_rfl) (by kernel_rfl) fun G hP hA => ?_
  unfold evF ic18
  conv => whnf
  (refine fin_auto ?_; conv => whnf); exact ⟨rfl, rfl, rfl, rfl, has_a, rfl⟩
theorem checkZ_range {kind : Int} {m : Nat} {h : Nat → Int} {slots pool budget glob loc : Int} (hc : checkZ kind m h slots pool budget glob loc = 0) :
    (1 ≤ kind ∧ kind ≤ 7) ∧ (1 ≤ m ∧ m ≤ 64) ∧ anyZ badH h m = false ∧ (kind = 2 → sizeB slots = true ∧ (m : Int) ≤ slots) ∧ (kind = 5 → 1 ≤ pool ∧ pool ≤ 8) ∧ (kind = 7 → (glob = 1 ∨ glob = 4) ∧ (loc = 1 ∨ loc = 3 ∨ loc = 4) ∧ 1 ≤ budget ∧ budget ≤ 1000) := by
  unfold checkZ at hc
  by_cases c1 : kind < 1 ∨ 7 < kind
  · rw [if_pos c1] at hc; omega
  rw [if_neg c1] at hc
  by_cases c2 : m < 1 ∨ 64 < m ∨ anyZ badH h m = true
  · rw [if_pos c2] at hc; omega
  rw [if_neg c2] at hc
  by_cases c3 : kind = 2 ∧ (sizeB slots = false ∨ slots < m)
  · rw [if_pos c3] at hc; omega
  rw [if_neg c3] at hc
  by_cases c4 : kind = 5 ∧ (pool < 1 ∨ 8 < pool)
  · rw [if_pos c4] at hc; omega
  rw [if_neg c4] at hc
  by_cases c5 : kind = 7 ∧ (¬ (glob = 1 ∨ glob = 4) ∨ ¬ (loc = 1 ∨ loc = 3 ∨ loc = 4) ∨ budget < 1 ∨ 1000 < budget)
  · rw [if_pos c5] at hc; omega
  have c2' : ¬ (m < 1) ∧ ¬ (64 < m) ∧ ¬ (anyZ badH h m = true) := ⟨fun q => c2 (.inl q), fun q => c2 (.inr (.inl q)), fun q => c2 (.inr (.inr q))⟩
  refine ⟨by omega, by omega, by simpa using c2'.2.2, fun hk => ⟨?_, ?_⟩, fun hk => by omega, fun hk => by omega⟩
  · cases hs : sizeB slots with
    | true => rfl
    | false => exact absurd ⟨hk, .inl hs⟩ c3
  · apply Classical.byContradiction
    intro hq
    exact c3 ⟨hk, .inr (by omega)⟩
end Go.Proofs.YtlkfolopbehikaaGreat
set_option linter.unusedSimpArgs false
set_option linter.unusedVariables false
namespace Go.Proofs.YtlkfolopbehikaaGreat
open Go Go.Sx

theorem buildNew_err (kind : Int) (m : Nat) (h : Nat → Int) (start slots pool budget glob loc : Int) (hm : m ≤ 80) (hc : checkZ kind m h slots pool budget glob loc ≠ 0) :
    FSpec Tryz.prog 33 [(0, some (.ro 1 m (numE h)))] 1 [confA kind 0 m start slots pool budget glob loc] fun x h' k =>
      x = .t [.l (.v .nilIface), .l (.v (.pointer none)), .l (.v (.int .i64 (checkZ kind m h slots pool budget glob loc)))] ∧ k = 1 ∧ h' = [] := by
  have bad := fun (e : Int) (a : Value) (he : e = checkZ kind m h slots pool budget glob loc) (hly : FSpec Tryz.prog 64 [(0, some (planP (m : Int) 0 (fun _ => 0) fun _ => 0)), (1, some (.ro 1 m (numE h)))] 2 [.l (.p 0 0 0 0), confA kind 1 m start slots pool budget glob loc] fun x h' k =>
      x = .t [.l (.v a), .l (.v (.int .i64 e))] ∧ k = 2 ∧ h' = [(0, some (planP (m : Int) 0 (fun _ => 0) fun _ => 0))]) => buildNew_bad h m kind start slots pool budget glob loc e a 0 (fun _ => 0) (fun _ => 0) (he ▸ hc) hly
  by_cases c1 : kind < 1 ∨ 7 < kind
  · have e : (7 : Int) = checkZ kind m h slots pool budget glob loc := by unfold checkZ; rw [if_pos c1]
    rw [← e]
    exact bad 7 _ e (layNone (m : Int) _ _ h m kind start slots pool budget glob loc c1)
  by_cases c2 : m < 1 ∨ 64 < m ∨ anyZ badH h m = true
  · have e : (1 : Int) = checkZ kind m h slots pool budget glob loc := by unfold checkZ; rw [if_neg c1, if_pos c2]
    rw [← e]
    rcases (show kind = 1 ∨ kind = 2 ∨ kind = 3 ∨ kind = 4 ∨ kind = 5 ∨ kind = 6 ∨ kind = 7 by omega) with rfl | rfl | rfl | rfl | rfl | rfl | rfl
    · exact bad 1 _ e (lay1_bad (m : Int) _ _ h m start slots pool budget glob loc hm c2)
    · exact bad 1 _ e (lay2_bad (m : Int) _ _ h m start slots pool budget glob loc hm c2)
    · exact bad 1 _ e (lay3_bad (m : Int) _ _ h m start slots pool budget glob loc hm c2)
    · exact bad 1 _ e (lay4_bad (m : Int) _ _ h m start slots pool budget glob loc hm c2)
    · exact bad 1 _ e (lay5_bad (m : Int) _ _ h m start slots pool budget glob loc hm c2)
    · exact bad 1 _ e (lay6_bad (m : Int) _ _ h m start slots pool budget glob loc hm c2)
    · exact bad 1 _ e (lay7_bad (m : Int) _ _ h m start slots pool budget glob loc hm c2)
  have hm1 : 1 ≤ m ∧ m ≤ 64 := by
    have h1 : ¬ m < 1 := fun q => c2 (.inl q)
    have h2 : ¬ 64 < m := fun q => c2 (.inr (.inl q))
    omega
  have hb : anyZ badH h m = false := Bool.eq_false_iff.2 fun q => c2 (.inr (.inr q))
  have hz : checkZ kind m h slots pool budget glob loc = if kind = 2 ∧ (sizeB slots = false ∨ slots < m) then 7 else if kind = 5 ∧ (pool < 1 ∨ 8 < pool) then 7 else
      if kind = 7 ∧ (¬ (glob = 1 ∨ glob = 4) ∨ ¬ (loc = 1 ∨ loc = 3 ∨ loc = 4) ∨ budget < 1 ∨ 1000 < budget) then 7 else 0 := by
    unfold checkZ; rw [if_neg c1, if_neg c2]
  by_cases c3 : kind = 2 ∧ (sizeB slots = false ∨ slots < m)
  · have e : (7 : Int) = checkZ kind m h slots pool budget glob loc := by rw [hz, if_pos c3]
    rw [← e]
    obtain ⟨rfl, c3⟩ := c3
    exact bad 7 _ e (lay2_none (m : Int) _ _ h m start slots pool budget glob loc hm1 hb (by rw [sizeB_sizN]; exact c3.symm))
  by_cases c4 : kind = 5 ∧ (pool < 1 ∨ 8 < pool)
  · have e : (7 : Int) = checkZ kind m h slots pool budget glob loc := by rw [hz, if_neg c3, if_pos c4]
    rw [← e]
    obtain ⟨rfl, c4⟩ := c4
    exact bad 7 _ e (lay5_none (m : Int) _ _ h m start slots pool budget glob loc hm1 hb c4)
  by_cases c5 : kind = 7 ∧ (¬ (glob = 1 ∨ glob = 4) ∨ ¬ (loc = 1 ∨ loc = 3 ∨ loc = 4) ∨ budget < 1 ∨ 1000 < budget)
  · have e : (7 : Int) = checkZ kind m h slots pool budget glob loc := by rw [hz, if_neg c3, if_neg c4, if_pos c5]
    rw [← e]
    obtain ⟨rfl, c5⟩ := c5
    refine bad 7 _ e (lay7_none (m : Int) _ _ h m start slots pool budget glob loc hm1 hb ?_)
    rcases c5 with c5 | c5 | c5 | c5
    · refine .inl ?_
      simp only [anyZ, gl2, Bool.false_or, Bool.or_eq_false_iff, decide_eq_false_iff_not]
      exact ⟨fun q => c5 (.inl q), fun q => c5 (.inr q)⟩
    · refine .inr (.inl ?_)
      simp only [anyZ, loc3, Bool.false_or, Bool.or_eq_false_iff, decide_eq_false_iff_not]
      exact ⟨⟨fun q => c5 (.inl q), fun q => c5 (.inr (.inl q))⟩, fun q => c5 (.inr (.inr q))⟩
    · exact .inr (.inr (.inl c5))
    · exact .inr (.inr (.inr c5))
  rw [hz, if_neg c3, if_neg c4, if_neg c5] at hc
  exact absurd rfl hc
end Go.Proofs.YtlkfolopbehikaaGreat
