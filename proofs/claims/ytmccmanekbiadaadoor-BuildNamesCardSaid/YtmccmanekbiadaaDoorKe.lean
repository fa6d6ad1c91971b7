/- Locks: caches and ports, made. -/
import Derived.Test.YtmccmanekbiadaaDoorKd
set_option linter.unusedSimpArgs false
set_option linter.unusedVariables false
namespace Go.Proofs.YtmccmanekbiadaaDoor
open Go Go.Sx

def copyE (c : Nat → Int) : Nat → List Value := fun i => [.int .u64 (c i)]
def pairE (a b : Nat → Int) : Nat → List Value := fun i => [.int .i64 (a i), .int .i64 (b i)]
/-- Who has a copy of which of nw words, and how many misses each of nt threads had. -/
def cacheH (nw nt : Nat) (cp ms : Nat → Int) : Heap := [(0, some (.st [.s 1 1 0 nw 0, .s 2 1 0 nt 0])), (1, some (.ar 1 nw (copyE cp))), (2, some (.ar 1 nt (numE ms)))]
def cacheP (nw nt : Nat) (cp ms : Nat → Int) : Ent := .ob [] (PackR (cacheH nw nt cp ms) 3)
theorem cacheNew_ok (nt nw : Nat) (h1 : 1 ≤ nt ∧ nt ≤ 64) (h2 : nw ≤ 4096) : FSpec Tryd.prog 57 [] 0 [.l (.v (.int .i64 nt)), .l (.v (.int .i64 nw))] fun x h k =>
    x = .t [.l (.p 0 0 0 0), .l (.v (.int .i64 0))] ∧ k = 1 ∧ h = [(0, some (cacheP nw nt (fun _ => 0) fun _ => 0))] := by
  refine spec_of_ev Tryd.func57 ic57_eq (rs := [.t 4, .t 5]) (by kernel_rfl) (by kernel_rfl) (by kernel_rfl) fun G hP hA => ?_
  unfold evF ic57
  conv => whnf
  (repeat' (first | (refine join_plain ?_; conv => whnf) | (refine dsplit (fun _ => ?_) (fun _ => ?_) <;> conv => whnf)))
  all_goals first | (exfalso; omega) | skip
  refine drawP_all (by rw [hP]; exact follows) 20 ?_
  conv => whnf
  repeat' (first | (refine And.intro (by omega) ?_; conv => whnf) | (refine And.intro ?_ ?_ <;> (conv => whnf)))
  all_goals (refine fin_close (H := (cacheH nw nt (fun _ => 0) (fun _ => 0))) (np := 3) 2 0 (Nat.le_of_ble_eq_true rfl) ?_; conv => whnf); (refine ⟨⟨rfl, by omega, rfl, rfl, (by repeat' (first | exact trivial | exact rfl | (intro _ _; exact rfl) | (intro _ hj; exact absurd hj (Nat.not_lt_zero _)) | exact Nat.le_refl _ | exact Or.inl (Or.inl (And.intro (fun h => h) rfl)) | exact Or.inl rfl | apply And.intro)), rfl⟩, ?_⟩)
  all_goals (refine fin_auto ?_; conv => whnf); exact ⟨rfl, rfl, rfl, rfl, (by repeat' (first | exact trivial | exact rfl | (intro _ _; exact rfl) | (intro _ hj; exact absurd hj (Nat.not_lt_zero _)) | exact Nat.le_refl _ | exact Or.inl (Or.inl (And.intro (fun h => h) rfl)) | exact Or.inl rfl | apply And.intro)), rfl⟩
/-- A port: a memory, a cache, and of each thread how many accesses and writes it had. -/
def portH (nt nw : Nat) (ws hs cp ms ac wr : Nat → Int) : Heap := [(0, some (.st [.p 1 0 0 0, .p 2 0 0 0, .s 3 2 0 nt 0])), (1, some (memP nw ws hs)), (2, some (cacheP nw nt cp ms)), (3, some (.ar 2 nt (pairE ac wr)))]
def portP (nt nw : Nat) (ws hs cp ms ac wr : Nat → Int) : Ent := .ob [] (PackR (portH nt nw ws hs cp ms ac wr) 4)
def cutF (f : Nat → Int) (i : Nat) : Nat → Int := fun j => if j < i then f j else 0
theorem cut_snoc (f : Nat → Int) (i : Nat) : updF (cutF f i) i (f i) = cutF f (i + 1) := by
  funext j
  unfold updF cutF
  by_cases h : j = i
  · subst h; simp
  · rw [if_neg h]
    by_cases h2 : j < i
    · rw [if_pos h2, if_pos (by omega)]
    · rw [if_neg h2, if_neg (by omega)]
theorem portNew_ok (nt m : Nat) (hs ws : Nat → Int) (h1 : 1 ≤ nt ∧ nt ≤ 64) (hm : m ≤ 4096) (hb : anyZ badH hs m = false) :
    FSpec Tryd.prog 33 [(0, some (.ro 1 m (numE hs))), (1, some (.ro 1 m (wordE ws)))] 2 [.l (.v (.int .i64 nt)), .l (.s 0 1 0 m 0), .l (.s 1 1 0 m 0)] fun x h k =>
      x = .t [.l (.p 2 0 0 0), .l (.v (.int .i64 0))] ∧ k = 3 ∧ h = [(2, some (portP nt m (cutF ws m) hs (fun _ => 0) (fun _ => 0) (fun _ => 0) fun _ => 0))] := by
  have hmn := memNew_ok hs m hm hb
  rw [show (fun _ => 0 : Nat → Int) = cutF ws 0 from funext fun j => by simp [cutF]] at hmn
  have hcn := cacheNew_ok nt m h1 hm
  refine spec_of_ev Tryd.func33 ic33_eq (rs := [.t 6, .t 7]) (by kernel_rfl) (by kernel_rfl) (by kernel_rfl) fun G hP hA => ?_
  unfold evF ic33
  conv => whnf
  (repeat' (first | (refine join_plain ?_; conv => whnf) | (refine dsplit (fun _ => ?_) (fun _ => ?_) <;> conv => whnf)))
  all_goals first | (exfalso; omega) | skip
  (refine call_auto hP (hmn) ?_; conv => whnf); (refine ⟨⟨rfl, rfl, rfl, (by repeat' (first | exact trivial | exact rfl | (intro _ _; exact rfl) | (intro _ hj; exact absurd hj (Nat.not_lt_zero _)) | exact Nat.le_refl _ | exact Or.inl (Or.inl (And.intro (fun h => h) rfl)) | exact Or.inl rfl | apply And.intro)), rfl, rfl⟩, ?_⟩; conv => whnf)
  refine loop_auto (α := Nat) (ds := []) (N := 3) (fun i => [(37, sInt .i64 (i : Int))]) [] (fun i => [(2, some (memP m (cutF ws i) hs))]) (fun i => i ≤ m) (fun i => m - i) 0 (Nat.zero_le _) ?_ fun i hi => ?_
  · (conv => whnf); (refine imp_auto hA ?_; conv => whnf); exact ⟨rfl, rfl, rfl, (by repeat' (first | exact trivial | exact rfl | apply And.intro)), (by repeat' (first | exact trivial | exact rfl | (intro _ _; exact rfl) | (intro _ hj; exact absurd hj (Nat.not_lt_zero _)) | exact Nat.le_refl _ | exact Or.inl (Or.inl (And.intro (fun h => h) rfl)) | exact Or.inl rfl | apply And.intro)), rfl⟩
  · have hni : nadd 0 ((i : Nat) : Int).toNat = i := by simp [nadd_eq]
    conv => whnf
    refine dsplit (fun h2 => ?_) (fun h2 => ?_)
    · have hst := memStore_in m i (cutF ws i) hs (ws i) (by omega) (by omega)
      conv => whnf
      (repeat' (first | (refine And.intro (by (first | omega | assumption | (simp only [nadd_eq]; omega) | (simp [nadd_eq]; omega))) ?_; conv => whnf) | (refine arI64 (by omega) (by omega) ?_; conv => whnf) | (refine arU32 (by omega) (by omega) ?_; conv => whnf) | (refine arU8 (by omega) (by omega) ?_; conv => whnf)))
      rw [hni]
      conv => whnf
      (refine call_auto hP (hst) ?_; conv => whnf); (refine ⟨⟨rfl, rfl, rfl, (by repeat' (first | exact trivial | exact rfl | (intro _ _; exact rfl) | (intro _ hj; exact absurd hj (Nat.not_lt_zero _)) | exact Nat.le_refl _ | exact Or.inl (Or.inl (And.intro (fun h => h) rfl)) | exact Or.inl rfl | apply And.intro)), rfl, rfl⟩, ?_⟩; conv => whnf)
      (repeat' (first | (refine And.intro (by (first | omega | assumption | (simp only [nadd_eq]; omega) | (simp [nadd_eq]; omega))) ?_; conv => whnf) | (refine arI64 (by omega) (by omega) ?_; conv => whnf) | (refine arU32 (by omega) (by omega) ?_; conv => whnf) | (refine arU8 (by omega) (by omega) ?_; conv => whnf)))
      refine ⟨i + 1, by omega, by omega, ?_⟩
      rw [cut_snoc]
      (conv => whnf); (refine imp_auto hA ?_; conv => whnf); exact ⟨rfl, rfl, rfl, (by repeat' (first | exact trivial | exact rfl | apply And.intro)), (by repeat' (first | exact trivial | exact rfl | (intro _ _; exact rfl) | (intro _ hj; exact absurd hj (Nat.not_lt_zero _)) | exact Nat.le_refl _ | exact Or.inl (Or.inl (And.intro (fun h => h) rfl)) | exact Or.inl rfl | apply And.intro)), rfl⟩
    · obtain rfl : i = m := by omega
      conv => whnf
      (refine call_auto hP (hcn) ?_; conv => whnf); (refine ⟨⟨rfl, rfl, rfl, (by repeat' (first | exact trivial | exact rfl | (intro _ _; exact rfl) | (intro _ hj; exact absurd hj (Nat.not_lt_zero _)) | exact Nat.le_refl _ | exact Or.inl (Or.inl (And.intro (fun h => h) rfl)) | exact Or.inl rfl | apply And.intro)), rfl, rfl⟩, ?_⟩; conv => whnf)
      (repeat' (first | (refine And.intro (by (first | omega | assumption | (simp only [nadd_eq]; omega) | (simp [nadd_eq]; omega))) ?_; conv => whnf) | (refine arI64 (by omega) (by omega) ?_; conv => whnf) | (refine arU32 (by omega) (by omega) ?_; conv => whnf) | (refine arU8 (by omega) (by omega) ?_; conv => whnf)))
      (refine fin_close (H := (portH nt i (cutF ws i) hs (fun _ => 0) (fun _ => 0) (fun _ => 0) fun _ => 0)) (np := 4) 5 0 (Nat.le_of_ble_eq_true rfl) ?_; conv => whnf); (refine ⟨⟨rfl, by omega, rfl, rfl, (by repeat' (first | exact trivial | exact rfl | (intro _ _; exact rfl) | (intro _ hj; exact absurd hj (Nat.not_lt_zero _)) | exact Nat.le_refl _ | exact Or.inl (Or.inl (And.intro (fun h => h) rfl)) | exact Or.inl rfl | apply And.intro)), rfl⟩, ?_⟩)
      (refine fin_auto ?_; conv => whnf); exact ⟨rfl, rfl, rfl, rfl, (by repeat' (first | exact trivial | exact rfl | (intro _ _; exact rfl) | (intro _ hj; exact absurd hj (Nat.not_lt_zero _)) | exact Nat.le_refl _ | exact Or.inl (Or.inl (And.intro (fun h => h) rfl)) | exact Or.inl rfl | apply And.intro)), rfl⟩
theorem portR_congr {nt nw : Nat} {ws hs cp ms ac wr ws' hs' : Nat → Int} (h1 : ∀ i, i < nw → ws i = ws' i) (h2 : ∀ i, i < nw → hs i = hs' i) {ls : List Go.Sx.Loc} {l : Go.Sx.Loc} {F : List Nat} {w : World} (h : PackR (portH nt nw ws hs cp ms ac wr) 4 ls l F w) : PackR (portH nt nw ws' hs' cp ms ac wr) 4 ls l F w := by
  have mem : ∀ {ws hs ws' hs' : Nat → Int}, (∀ i, i < nw → ws i = ws' i) → (∀ i, i < nw → hs i = hs' i) → ∀ ls l F w, PackR (memH nw ws hs) 3 ls l F w → PackR (memH nw ws' hs') 3 ls l F w := fun {ws hs ws' hs'} h1 h2 ls l F w h => by
    refine packR_congr ?_ ?_ h
    · exact ⟨rfl, ⟨rfl, rfl, fun i hi => by simp only [wordE, h1 i hi]⟩, ⟨rfl, rfl, fun i hi => by simp only [numE, h2 i hi]⟩, trivial⟩
    · exact ⟨rfl, ⟨rfl, rfl, fun i hi => by simp only [wordE, h1 i hi]⟩, ⟨rfl, rfl, fun i hi => by simp only [numE, h2 i hi]⟩, trivial⟩
  refine packR_congr ?_ ?_ h
  · exact ⟨rfl, ⟨rfl, .inr ⟨fun ls => packR_stable _ _ _, mem h1 h2⟩⟩, ⟨rfl, .inl rfl⟩, ⟨rfl, rfl, fun i hi => rfl⟩, trivial⟩
  · exact ⟨rfl, ⟨rfl, .inr ⟨fun ls => packR_stable _ _ _, mem (fun i hi => (h1 i hi).symm) (fun i hi => (h2 i hi).symm)⟩⟩, ⟨rfl, .inl rfl⟩, ⟨rfl, rfl, fun i hi => rfl⟩, trivial⟩
theorem planPort_ok (nt m : Nat) (hs ws : Nat → Int) (h1 : 1 ≤ nt ∧ nt ≤ 64) (hm : m ≤ 4096) (hb : anyZ badH hs m = false) :
    FSpec Tryd.prog 22 [(0, some (planP nt m hs ws))] 1 [.l (.p 0 0 0 0)] fun x h k =>
      x = .t [.l (.p 1 0 0 0), .l (.v (.int .i64 0))] ∧ k = 2 ∧ h = [(1, some (portP nt m (cutF ws m) hs (fun _ => 0) (fun _ => 0) (fun _ => 0) fun _ => 0))] := by
  have hpn := portNew_ok nt m hs ws h1 hm hb
  refine spec_of_ev_g (open_spec (planH nt m hs ws) 3 0 (by omega)) Tryd.func22 ic22_eq (rs := [.t 2, .t 3]) (by kernel_rfl) (by kernel_rfl) (by kernel_rfl) fun G hP hA => ?_
  unfold evF ic22
  conv => whnf
  (refine drawP_intro (by rw [hP]; exact follows) (by kernel_rfl) ?_; conv => whnf)
  (refine callD_auto hP (hpn) ?_; conv => whnf); (refine ⟨⟨rfl, rfl, rfl, (by repeat' (first | exact trivial | exact rfl | (intro _ _; exact rfl) | (intro _ hj; exact absurd hj (Nat.not_lt_zero _)) | exact Nat.le_refl _ | exact Or.inl (Or.inl (And.intro (fun h => h) rfl)) | exact Or.inl rfl | apply And.intro)), rfl, rfl⟩, ?_⟩; conv => whnf)
  (repeat (refine And.intro (by (conv => whnf); first | exact ⟨rfl, rfl, rfl⟩ | (refine And.intro (by (first | omega | assumption | (simp only [nadd_eq]; omega) | (simp [nadd_eq]; omega))) ?_; (conv => whnf); exact ⟨rfl, rfl, rfl⟩)) ?_; conv => whnf))
  conv => whnf
  (refine fin_auto ?_; conv => whnf); exact ⟨rfl, rfl, rfl, rfl, (by repeat' (first | exact trivial | exact rfl | (intro _ _; exact rfl) | (intro _ hj; exact absurd hj (Nat.not_lt_zero _)) | exact Nat.le_refl _ | exact Or.inl (Or.inl (And.intro (fun h => h) rfl)) | exact Or.inl rfl | apply And.intro)), rfl⟩
end Go.Proofs.YtmccmanekbiadaaDoor
