/- Locks: memories, caches, ports, made. -/
import Derived.Test.YtmccmanekbiadaaDoorKc
import Derived.Test.YtmccmanekbiadaaDoorSxPM
set_option linter.unusedSimpArgs false
set_option linter.unusedVariables false
namespace Go.Proofs.YtmccmanekbiadaaDoor
open Go Go.Sx

theorem extStore : ExtA Tryd.prog 80 Extern.Atomic.storeT := ⟨_, Tryd.func80, by kernel_rfl, by kernel_rfl, by kernel_rfl, by kernel_rfl⟩
def memH (n : Nat) (ws hs : Nat → Int) : Heap := [(0, some (.st [.s 1 1 0 n 0, .s 2 1 0 n 0])), (1, some (.ar 1 n (wordE ws))), (2, some (.ar 1 n (numE hs)))]
def memP (n : Nat) (ws hs : Nat → Int) : Ent := .ob [] (PackR (memH n ws hs) 3)
def updF (f : Nat → Int) (i : Nat) (v : Int) : Nat → Int := fun j => if j = i then v else f j
theorem updE (f : Nat → Int) (i : Nat) (v : Int) (j : Nat) : mrgL (j = i) (setMany (wordE f j) 0 [.int .u32 v]) (wordE f j) = wordE (updF f i v) j := by
  simp only [wordE, updF, setMany, setL, mrgL, mrg_eq]
  by_cases h : j = i <;> simp [h]
theorem astore_spec (n i : Nat) (ws : Nat → Int) (v : Int) (hi : i < n) :
    FSpec Tryd.prog 73 [(0, some (.ar 1 n (wordE ws)))] 1 [.l (.p 0 1 i 0), .l (.v (.int .u32 v))] fun x h k => x = .t [] ∧ k = 1 ∧ h = [(0, some (.ar 1 n (wordE (updF ws i v))))] := by
  refine spec_of_ev Tryd.func73 ic73_eq (rs := []) (by kernel_rfl) (by kernel_rfl) (by kernel_rfl) fun G hP hA => ?_
  unfold evF ic73
  conv => whnf
  refine esc_astore (q := .u32) (hP ▸ extStore) rfl rfl rfl hi (by omega) ⟨_, rfl⟩ ?_
  conv => whnf
  refine ⟨hi, ?_⟩
  conv => whnf
  (refine fin_auto ?_; conv => whnf); refine ⟨rfl, rfl, rfl, ?_, ?_, rfl⟩
  · rfl
  · refine ⟨⟨rfl, rfl, fun j hj => updE ws i v j⟩, trivial⟩
theorem cloneI_spec (f : Nat → List Value) (m : Nat) (hm : m ≤ 1000000) :
    FSpec Tryd.prog 71 [(0, some (.ro 1 m f))] 1 [.l (.s 0 1 0 m 0)] fun x h n => x = .o (.l (.s 1 1 0 m 0)) ∧ n = 2 ∧ h = [(1, some (.ar 1 m f))] := by
  refine FSpec.nil_ret (Q := fun x h n => (x = .o (.l (.s 1 1 0 m 0)) ∧ n = 2 ∧ h = [(1, some (.ar 1 m f))]) ∨ (m = 0 ∧ x = .o (.l (.v (.slice none 0 0))) ∧ n = 1 ∧ h = [])) ?_ ?_
  · refine spec_of_ev Tryd.func71 ic71_eq (rs := [.t 2]) (by kernel_rfl) (by kernel_rfl) (by kernel_rfl) fun G hP hA => ?_
    unfold evF ic71
    conv => whnf
    refine esc_isnil (el := 3) (by rw [hP]; kernel_rfl) rfl fun b hb => ?_
    conv => whnf
    refine bsplit (fun h => ?_) (fun h => ?_)
    · conv => whnf
      exact finP_intro [0] (.o (.l (.v (.slice none 0 0)))) [] 1 rfl (.inr ⟨hb h, rfl, rfl, rfl⟩) rfl rfl rfl trivial rfl
    · conv => whnf
      (repeat' (first | (refine And.intro (by (first | omega | assumption | (simp only [nadd_eq]; omega) | (simp [nadd_eq]; omega))) ?_; conv => whnf) | (refine arI64 (by omega) (by omega) ?_; conv => whnf) | (refine arU32 (by omega) (by omega) ?_; conv => whnf) | (refine arU8 (by omega) (by omega) ?_; conv => whnf)))
      refine finP_intro [0, 2] (.o (.l (.s 1 1 0 m 0))) [(1, some (.ar 1 m f))] 2 rfl (.inl ⟨rfl, rfl, rfl⟩) rfl rfl ?_ ?_ rfl
      · show SV.o (.l (.s 2 1 0 (0 + m) 0)) = _
        rw [Nat.zero_add]; rfl
      · refine ⟨?_, trivial⟩
        show EntLe _ (.ar 1 (0 + m) _) _
        refine ⟨rfl, Nat.zero_add m, fun i hi => ?_⟩
        simp [nadd_eq]
  · intro x h n hx
    rcases hx with ⟨rfl, rfl, rfl⟩ | ⟨rfl, rfl, rfl, rfl⟩
    · exact .inl ⟨rfl, rfl, rfl⟩
    · exact .inr ⟨1, f, _, fun ρ h => nil_at ρ h, fun ρ D hD h _ => nil_ok ρ D hD h, rfl, rfl, rfl⟩
theorem memAt_in (n i : Nat) (ws hs : Nat → Int) (hi : i < n) (hn : n ≤ 1000000) :
    FSpec Tryd.prog 72 (memH n ws hs) 3 [.l (.p 0 0 0 0), .l (.v (.int .i64 i))] fun x h k => x = .o (.l (.p 1 1 i 0)) ∧ k = 3 ∧ h = memH n ws hs := by
  refine spec_of_ev Tryd.func72 ic72_eq (rs := [.t 4]) (by kernel_rfl) (by kernel_rfl) (by kernel_rfl) fun G hP hA => ?_
  unfold evF ic72
  have hni : nadd 0 ((i : Nat) : Int).toNat = i := by simp [nadd_eq]
  conv => whnf
  (repeat' (first | (refine join_plain ?_; conv => whnf) | (refine dsplit (fun _ => ?_) (fun _ => ?_) <;> conv => whnf)))
  all_goals first | (exfalso; omega) | skip
  (repeat' (first | (refine And.intro (by (first | omega | assumption | (simp only [nadd_eq]; omega) | (simp [nadd_eq]; omega))) ?_; conv => whnf) | (refine arI64 (by omega) (by omega) ?_; conv => whnf) | (refine arU32 (by omega) (by omega) ?_; conv => whnf) | (refine arU8 (by omega) (by omega) ?_; conv => whnf)))
  rw [hni]
  (refine fin_auto ?_; conv => whnf); exact ⟨rfl, rfl, rfl, rfl, (by repeat' (first | exact trivial | exact rfl | (intro _ _; exact rfl) | (intro _ hj; exact absurd hj (Nat.not_lt_zero _)) | exact Nat.le_refl _ | exact Or.inl (Or.inl (And.intro (fun h => h) rfl)) | exact Or.inl rfl | apply And.intro)), rfl⟩
theorem memStore_in (n i : Nat) (ws hs : Nat → Int) (v : Int) (hi : i < n) (hn : n ≤ 1000000) :
    FSpec Tryd.prog 56 [(0, some (memP n ws hs))] 1 [.l (.p 0 0 0 0), .l (.v (.int .i64 i)), .l (.v (.int .u32 v))] fun x h k => x = .t [] ∧ k = 1 ∧ h = [(0, some (memP n (updF ws i v) hs))] := by
  have ha := memAt_in n i ws hs hi hn
  have hs' := astore_spec n i ws v hi
  refine spec_of_ev_g (open_spec (memH n ws hs) 3 0 (by omega)) Tryd.func56 ic56_eq (rs := []) (by kernel_rfl) (by kernel_rfl) (by kernel_rfl) fun G hP hA => ?_
  unfold evF ic56
  conv => whnf
  (refine call_auto hP (ha) ?_; conv => whnf); (refine ⟨⟨rfl, rfl, rfl, (by repeat' (first | exact trivial | exact rfl | (intro _ _; exact rfl) | (intro _ hj; exact absurd hj (Nat.not_lt_zero _)) | exact Nat.le_refl _ | exact Or.inl (Or.inl (And.intro (fun h => h) rfl)) | exact Or.inl rfl | apply And.intro)), rfl, rfl⟩, ?_⟩; conv => whnf)
  (refine call_auto hP (hs') ?_; conv => whnf); (refine ⟨⟨rfl, rfl, rfl, (by repeat' (first | exact trivial | exact rfl | (intro _ _; exact rfl) | (intro _ hj; exact absurd hj (Nat.not_lt_zero _)) | exact Nat.le_refl _ | exact Or.inl (Or.inl (And.intro (fun h => h) rfl)) | exact Or.inl rfl | apply And.intro)), rfl, rfl⟩, ?_⟩; conv => whnf)
  (refine fin_close (H := (memH n (updF ws i v) hs)) (np := 3) 0 0 (Nat.le_of_ble_eq_true rfl) ?_; conv => whnf); (refine ⟨⟨rfl, by omega, rfl, rfl, (by repeat' (first | exact trivial | exact rfl | (intro _ _; exact rfl) | (intro _ hj; exact absurd hj (Nat.not_lt_zero _)) | exact Nat.le_refl _ | exact Or.inl (Or.inl (And.intro (fun h => h) rfl)) | exact Or.inl rfl | apply And.intro)), rfl⟩, ?_⟩)
  (refine fin_auto ?_; conv => whnf); exact ⟨rfl, rfl, rfl, rfl, (by repeat' (first | exact trivial | exact rfl | (intro _ _; exact rfl) | (intro _ hj; exact absurd hj (Nat.not_lt_zero _)) | exact Nat.le_refl _ | exact Or.inl (Or.inl (And.intro (fun h => h) rfl)) | exact Or.inl rfl | apply And.intro)), rfl⟩
def badC (v : Int) : Bool := badH v
theorem any_mono {p : Int → Bool} {h : Nat → Int} : ∀ {m i : Nat}, i < m → p (h i) = true → anyZ p h m = true
  | m + 1, i, hi, hp => by
    simp only [anyZ, Bool.or_eq_true]
    by_cases e : i = m
    · subst e; exact .inr hp
    · exact .inl (any_mono (by omega) hp)
theorem memNew_big (hs : Nat → Int) (m : Nat) (hm : 4096 < m) (hm2 : m ≤ 1000000) : FSpec Tryd.prog 55 [(0, some (.ro 1 m (numE hs)))] 1 [.l (.s 0 1 0 m 0)] fun x h k => x = .t [.l (.v (.pointer none)), .l (.v (.int .i64 5))] ∧ k = 1 ∧ h = [] := by
  refine spec_of_ev Tryd.func55 ic55_eq (rs := [.t 2, .t 3]) (by kernel_rfl) (by kernel_rfl) (by kernel_rfl) fun G hP hA => ?_
  unfold evF ic55
  conv => whnf
  refine dsplit (fun h1 => ?_) (fun h1 => absurd h1 (by omega))
  conv => whnf
  (refine fin_auto ?_; conv => whnf); exact ⟨rfl, rfl, rfl, rfl, (by repeat' (first | exact trivial | exact rfl | (intro _ _; exact rfl) | (intro _ hj; exact absurd hj (Nat.not_lt_zero _)) | exact Nat.le_refl _ | exact Or.inl (Or.inl (And.intro (fun h => h) rfl)) | exact Or.inl rfl | apply And.intro)), rfl⟩
theorem memNew_bad (hs : Nat → Int) (m : Nat) (hm : m ≤ 4096) (hb : anyZ badH hs m = true) : FSpec Tryd.prog 55 [(0, some (.ro 1 m (numE hs)))] 1 [.l (.s 0 1 0 m 0)] fun x h k => x = .t [.l (.v (.pointer none)), .l (.v (.int .i64 1))] ∧ k = 1 ∧ h = [] := by
  refine spec_of_ev Tryd.func55 ic55_eq (rs := [.t 2, .t 3]) (by kernel_rfl) (by kernel_rfl) (by kernel_rfl) fun G hP hA => ?_
  unfold evF ic55
  conv => whnf
  refine dsplit (fun h1 => absurd h1 (by omega)) (fun h1 => ?_)
  conv => whnf
  refine loop_auto (α := Nat) (ds := []) (N := 1) (fun i => [(11, sInt .i64 (i : Int))]) [] (fun _ => []) (fun i => i ≤ m ∧ anyZ badH hs i = false) (fun i => m - i) 0 ⟨Nat.zero_le _, rfl⟩ ?_ fun i hi => ?_
  · (conv => whnf); (refine imp_auto hA ?_; conv => whnf); exact ⟨rfl, rfl, rfl, (by repeat' (first | exact trivial | exact rfl | apply And.intro)), (by repeat' (first | exact trivial | exact rfl | (intro _ _; exact rfl) | (intro _ hj; exact absurd hj (Nat.not_lt_zero _)) | exact Nat.le_refl _ | exact Or.inl (Or.inl (And.intro (fun h => h) rfl)) | exact Or.inl rfl | apply And.intro)), rfl⟩
  · obtain ⟨hi0, hi1⟩ := hi
    have hni : nadd 0 ((i : Nat) : Int).toNat = i := by simp [nadd_eq]
    conv => whnf
    refine dsplit (fun h2 => ?_) (fun h2 => ?_)
    · conv => whnf
      (repeat' (first | (refine And.intro (by (first | omega | assumption | (simp only [nadd_eq]; omega) | (simp [nadd_eq]; omega))) ?_; conv => whnf) | (refine arI64 (by omega) (by omega) ?_; conv => whnf) | (refine arU32 (by omega) (by omega) ?_; conv => whnf) | (refine arU8 (by omega) (by omega) ?_; conv => whnf)))
      rw [hni]
      conv => whnf
      refine dsplit (fun h3 => ?_) (fun h3 => ?_)
      · conv => whnf
        (refine fin_auto ?_; conv => whnf); exact ⟨rfl, rfl, rfl, rfl, (by repeat' (first | exact trivial | exact rfl | (intro _ _; exact rfl) | (intro _ hj; exact absurd hj (Nat.not_lt_zero _)) | exact Nat.le_refl _ | exact Or.inl (Or.inl (And.intro (fun h => h) rfl)) | exact Or.inl rfl | apply And.intro)), rfl⟩
      · conv => whnf
        refine dsplit (fun h4 => ?_) (fun h4 => ?_)
        · conv => whnf
          (refine fin_auto ?_; conv => whnf); exact ⟨rfl, rfl, rfl, rfl, (by repeat' (first | exact trivial | exact rfl | (intro _ _; exact rfl) | (intro _ hj; exact absurd hj (Nat.not_lt_zero _)) | exact Nat.le_refl _ | exact Or.inl (Or.inl (And.intro (fun h => h) rfl)) | exact Or.inl rfl | apply And.intro)), rfl⟩
        · conv => whnf
          (repeat' (first | (refine And.intro (by (first | omega | assumption | (simp only [nadd_eq]; omega) | (simp [nadd_eq]; omega))) ?_; conv => whnf) | (refine arI64 (by omega) (by omega) ?_; conv => whnf) | (refine arU32 (by omega) (by omega) ?_; conv => whnf) | (refine arU8 (by omega) (by omega) ?_; conv => whnf)))
          refine ⟨i + 1, ⟨by omega, ?_⟩, by omega, ?_⟩
          · simp only [anyZ, hi1, Bool.false_or, badH, decide_eq_false h3, decide_eq_false h4]
          · (conv => whnf); (refine imp_auto hA ?_; conv => whnf); exact ⟨rfl, rfl, rfl, (by repeat' (first | exact trivial | exact rfl | apply And.intro)), (by repeat' (first | exact trivial | exact rfl | (intro _ _; exact rfl) | (intro _ hj; exact absurd hj (Nat.not_lt_zero _)) | exact Nat.le_refl _ | exact Or.inl (Or.inl (And.intro (fun h => h) rfl)) | exact Or.inl rfl | apply And.intro)), rfl⟩
    · obtain rfl : i = m := by omega
      rw [hi1] at hb; cases hb
theorem memNew_ok (hs : Nat → Int) (m : Nat) (hm : m ≤ 4096) (hb : anyZ badH hs m = false) : FSpec Tryd.prog 55 [(0, some (.ro 1 m (numE hs)))] 1 [.l (.s 0 1 0 m 0)] fun x h k =>
    x = .t [.l (.p 1 0 0 0), .l (.v (.int .i64 0))] ∧ k = 2 ∧ h = [(1, some (memP m (fun _ => 0) hs))] := by
  have hcl := cloneI_spec (numE hs) m (by omega)
  refine spec_of_ev Tryd.func55 ic55_eq (rs := [.t 2, .t 3]) (by kernel_rfl) (by kernel_rfl) (by kernel_rfl) fun G hP hA => ?_
  unfold evF ic55
  conv => whnf
  refine dsplit (fun h1 => absurd h1 (by omega)) (fun h1 => ?_)
  conv => whnf
  refine loop_auto (α := Nat) (ds := []) (N := 1) (fun i => [(11, sInt .i64 (i : Int))]) [] (fun _ => []) (fun i => i ≤ m) (fun i => m - i) 0 (Nat.zero_le _) ?_ fun i hi => ?_
  · (conv => whnf); (refine imp_auto hA ?_; conv => whnf); exact ⟨rfl, rfl, rfl, (by repeat' (first | exact trivial | exact rfl | apply And.intro)), (by repeat' (first | exact trivial | exact rfl | (intro _ _; exact rfl) | (intro _ hj; exact absurd hj (Nat.not_lt_zero _)) | exact Nat.le_refl _ | exact Or.inl (Or.inl (And.intro (fun h => h) rfl)) | exact Or.inl rfl | apply And.intro)), rfl⟩
  · have hni : nadd 0 ((i : Nat) : Int).toNat = i := by simp [nadd_eq]
    conv => whnf
    refine dsplit (fun h2 => ?_) (fun h2 => ?_)
    · have hbi : ¬ badH (hs i) = true := fun h => by rw [any_mono (show i < m by omega) h] at hb; cases hb
      simp only [badH, Bool.or_eq_true, decide_eq_true_eq] at hbi
      conv => whnf
      (repeat' (first | (refine And.intro (by (first | omega | assumption | (simp only [nadd_eq]; omega) | (simp [nadd_eq]; omega))) ?_; conv => whnf) | (refine arI64 (by omega) (by omega) ?_; conv => whnf) | (refine arU32 (by omega) (by omega) ?_; conv => whnf) | (refine arU8 (by omega) (by omega) ?_; conv => whnf)))
      rw [hni]
      conv => whnf
      (repeat' (first | (refine join_plain ?_; conv => whnf) | (refine dsplit (fun _ => ?_) (fun _ => ?_) <;> conv => whnf)))
      all_goals first | (exfalso; omega) | skip
      (repeat' (first | (refine And.intro (by (first | omega | assumption | (simp only [nadd_eq]; omega) | (simp [nadd_eq]; omega))) ?_; conv => whnf) | (refine arI64 (by omega) (by omega) ?_; conv => whnf) | (refine arU32 (by omega) (by omega) ?_; conv => whnf) | (refine arU8 (by omega) (by omega) ?_; conv => whnf)))
      refine ⟨i + 1, by omega, by omega, ?_⟩
      (conv => whnf); (refine imp_auto hA ?_; conv => whnf); exact ⟨rfl, rfl, rfl, (by repeat' (first | exact trivial | exact rfl | apply And.intro)), (by repeat' (first | exact trivial | exact rfl | (intro _ _; exact rfl) | (intro _ hj; exact absurd hj (Nat.not_lt_zero _)) | exact Nat.le_refl _ | exact Or.inl (Or.inl (And.intro (fun h => h) rfl)) | exact Or.inl rfl | apply And.intro)), rfl⟩
    · obtain rfl : i = m := by omega
      conv => whnf
      refine drawP_all (by rw [hP]; exact follows) 20 ?_
      conv => whnf
      repeat' (first | (refine And.intro (by omega) ?_; conv => whnf) | (refine And.intro ?_ ?_ <;> (conv => whnf)) | (refine call_auto hP (hcl) ?_; conv => whnf); (refine ⟨⟨rfl, rfl, rfl, (by repeat' (first | exact trivial | exact rfl | (intro _ _; exact rfl) | (intro _ hj; exact absurd hj (Nat.not_lt_zero _)) | exact Nat.le_refl _ | exact Or.inl (Or.inl (And.intro (fun h => h) rfl)) | exact Or.inl rfl | apply And.intro)), rfl, rfl⟩, ?_⟩; conv => whnf))
      all_goals (refine fin_close (H := (memH i (fun _ => 0) hs)) (np := 3) 3 0 (Nat.le_of_ble_eq_true rfl) ?_; conv => whnf); (refine ⟨⟨rfl, by omega, rfl, rfl, (by repeat' (first | exact trivial | exact rfl | (intro _ _; exact rfl) | (intro _ hj; exact absurd hj (Nat.not_lt_zero _)) | exact Nat.le_refl _ | exact Or.inl (Or.inl (And.intro (fun h => h) rfl)) | exact Or.inl rfl | apply And.intro)), rfl⟩, ?_⟩)
      all_goals (refine fin_auto ?_; conv => whnf); exact ⟨rfl, rfl, rfl, rfl, (by repeat' (first | exact trivial | exact rfl | (intro _ _; exact rfl) | (intro _ hj; exact absurd hj (Nat.not_lt_zero _)) | exact Nat.le_refl _ | exact Or.inl (Or.inl (And.intro (fun h => h) rfl)) | exact Or.inl rfl | apply And.intro)), rfl⟩
end Go.Proofs.YtmccmanekbiadaaDoor
