/- Build*: the document's examples. -/
import Derived.Test.YtmccmanekbiadaaDoorKn
set_option linter.unusedSimpArgs false
set_option linter.unusedVariables false
namespace Go.Proofs.YtmccmanekbiadaaDoor
open Go Go.Sx

theorem memLen_spec (n : Nat) (ws hs : Nat → Int) : FSpec Tryd.prog 16 [(0, some (memP n ws hs))] 1 [.l (.p 0 0 0 0)] fun x h k => x = sInt .i64 (n : Int) ∧ k = 1 ∧ h = [(0, some (memP n ws hs))] := by
  refine spec_of_ev_g (open_spec (memH n ws hs) 3 0 (by omega)) Tryd.func16 ic16_eq (rs := [.t 2]) (by kernel_rfl) (by kernel_rfl) (by kernel_rfl) fun G hP hA => ?_
  unfold evF ic16
  conv => whnf
  (refine fin_close (H := (memH n ws hs)) (np := 3) 0 0 (Nat.le_of_ble_eq_true rfl) ?_; conv => whnf); (refine ⟨⟨rfl, by omega, rfl, rfl, (by repeat' (first | exact trivial | exact rfl | (intro _ _; exact rfl) | (intro _ hj; exact absurd hj (Nat.not_lt_zero _)) | exact Nat.le_refl _ | exact Or.inl (Or.inl (And.intro (fun h => h) rfl)) | exact Or.inl rfl | apply And.intro)), rfl⟩, ?_⟩)
  (refine fin_auto ?_; conv => whnf); exact ⟨rfl, rfl, rfl, rfl, (by repeat' (first | exact trivial | exact rfl | (intro _ _; exact rfl) | (intro _ hj; exact absurd hj (Nat.not_lt_zero _)) | exact Nat.le_refl _ | exact Or.inl (Or.inl (And.intro (fun h => h) rfl)) | exact Or.inl rfl | apply And.intro)), rfl⟩
/-- A lock and its port, behind what made them: the port is open. -/
def portO (nt nw : Nat) (ws hs cp ms ac wr : Nat → Int) (k : Nat) : Heap := [(2, some (.st [.p k 0 0 0, .p (k + 1) 0 0 0, .s (k + 2) 2 0 nt 0])), (k, some (memP nw ws hs)), (k + 1, some (cacheP nw nt cp ms)), (k + 2, some (.ar 2 nt (pairE ac wr)))]
theorem port_open {P : Program} {f : FuncId} {pre : Heap} {np : Nat} {args : List AV} {X : SV} {L : Ent} {nt nw : Nat} {ws hs cp ms ac wr : Nat → Int} (hnp : np ≤ 3)
    (h : FSpec P f pre np args fun x h' k => x = X ∧ k = 3 ∧ h' = [(1, some L), (2, some (portP nt nw ws hs cp ms ac wr))])
    (hf : FinP np X ((renH (ren2 [2] 3) (portH nt nw ws hs cp ms ac wr) ++ [(2, none)]) ++ [(1, some L), (2, some (portP nt nw ws hs cp ms ac wr))]) 6 fun x h' k => x = X ∧ k = 6 ∧ h' = (1, some L) :: portO nt nw ws hs cp ms ac wr 3) :
    FSpec P f pre np args fun x h' k => x = X ∧ k = 6 ∧ h' = (1, some L) :: portO nt nw ws hs cp ms ac wr 3 := by
  refine FSpec.refin h fun x h' k hx hk => ?_
  obtain ⟨rfl, rfl, rfl⟩ := hx
  exact finP_ghost (open_at 2 (ks := []) (H := portH nt nw ws hs cp ms ac wr) (np := 4) rfl (by decide) rfl rfl rfl) hnp hf
theorem buildNew3_open (h : Nat → Int) (m : Nat) (start slots pool budget glob loc : Int) (hm : 1 ≤ m ∧ m ≤ 64) (hb : anyZ badH h m = false) :
    FSpec Tryd.prog 15 [(0, some (.ro 1 m (numE h)))] 1 [confA 3 0 m start slots pool budget glob loc] fun x h' k =>
      x = .t [.l (.i 78 1), .l (.p 2 0 0 0), .l (.v (.int .i64 0))] ∧ k = 6 ∧ h' = (1, some (.ob [2] (PackR (clhH1 m 0 (fun _ => 0) (fun _ => -1) (fun i => i + 1) (fun _ => 0) fun _ => 0) 4))) ::
        portO m (2 + m) (cutF (clhWs (fun _ => 0) 0 m) (2 + m)) (clhHs (fun _ => 0) 0 h m) (fun _ => 0) (fun _ => 0) (fun _ => 0) (fun _ => 0) 3 := by
  refine port_open (by omega) (buildNew3_ok h m start slots pool budget glob loc hm hb) ?_
  refine finP_intro [0, 1, 2, 3, 4, 5] _ _ 6 rfl ⟨rfl, rfl, rfl⟩ rfl rfl rfl ?_ rfl
  exact (by repeat' (first | exact trivial | exact rfl | (intro _ _; exact rfl) | (intro _ hj; exact absurd hj (Nat.not_lt_zero _)) | exact Nat.le_refl _ | exact Or.inl (Or.inl (And.intro (fun h => h) rfl)) | exact Or.inl rfl | apply And.intro))
def confN (kind : Int) : AV := .a [.v (.int .i64 kind), .v (.slice none 0 0), .v (.int .u32 0), .v (.int .i64 0), .v (.int .i64 0), .v (.int .i64 0), .v (.int .i64 0), .v (.int .i64 0)]
theorem clhNew_nil (th : Int) (M : Nat) (hs ws : Nat → Int) :
    FSpec Tryd.prog 28 [(0, some (planP th M hs ws))] 1 [.l (.p 0 0 0 0), .l (.v (.slice none 0 0))] fun x h' k => x = .t [.l (.v (.pointer none)), .l (.v (.int .i64 1))] ∧ k = 1 ∧ h' = [(0, some (planP th M hs ws))] := by
  have hse := seatNew_bad 0 false true (by omega)
  refine spec_of_ev Tryd.func28 ic28_eq (rs := [.t 4, .t 5]) (by kernel_rfl) (by kernel_rfl) (by kernel_rfl) fun G hP hA => ?_
  unfold evF ic28
  conv => whnf
  (refine call_auto hP (hse) ?_; conv => whnf); (refine ⟨⟨rfl, rfl, rfl, (by repeat' (first | exact trivial | exact rfl | (intro _ _; exact rfl) | (intro _ hj; exact absurd hj (Nat.not_lt_zero _)) | exact Nat.le_refl _ | exact Or.inl (Or.inl (And.intro (fun h => h) rfl)) | exact Or.inl rfl | apply And.intro)), rfl, rfl⟩, ?_⟩; conv => whnf)
  (refine fin_auto ?_; conv => whnf); exact ⟨rfl, rfl, rfl, rfl, (by repeat' (first | exact trivial | exact rfl | (intro _ _; exact rfl) | (intro _ hj; exact absurd hj (Nat.not_lt_zero _)) | exact Nat.le_refl _ | exact Or.inl (Or.inl (And.intro (fun h => h) rfl)) | exact Or.inl rfl | apply And.intro)), rfl⟩
theorem lay3_nil (th : Int) (hs ws : Nat → Int) :
    FSpec Tryd.prog 21 [(0, some (planP th 0 hs ws))] 1 [.l (.p 0 0 0 0), confN 3] fun x h' k =>
      x = .t [.l (.v (.iface 78 (.pointer none))), .l (.v (.int .i64 1))] ∧ k = 1 ∧ h' = [(0, some (planP th 0 hs ws))] := by
  have hcn := clhNew_nil th 0 hs ws
  refine spec_of_ev Tryd.func21 ic21_eq (rs := [.t 4, .t 5]) (by kernel_rfl) (by kernel_rfl) (by kernel_rfl) fun G hP hA => ?_
  unfold evF ic21
  conv => whnf
  (refine call_auto hP (hcn) ?_; conv => whnf); (refine ⟨⟨rfl, rfl, rfl, (by repeat' (first | exact trivial | exact rfl | (intro _ _; exact rfl) | (intro _ hj; exact absurd hj (Nat.not_lt_zero _)) | exact Nat.le_refl _ | exact Or.inl (Or.inl (And.intro (fun h => h) rfl)) | exact Or.inl rfl | apply And.intro)), rfl, rfl⟩, ?_⟩; conv => whnf)
  (refine fin_auto ?_; conv => whnf); exact ⟨rfl, rfl, rfl, rfl, (by repeat' (first | exact trivial | exact rfl | (intro _ _; exact rfl) | (intro _ hj; exact absurd hj (Nat.not_lt_zero _)) | exact Nat.le_refl _ | exact Or.inl (Or.inl (And.intro (fun h => h) rfl)) | exact Or.inl rfl | apply And.intro)), rfl⟩
theorem buildNew3_nil : FSpec Tryd.prog 15 [] 0 [confN 3] fun x h' k => x = .t [.l (.v .nilIface), .l (.v (.pointer none)), .l (.v (.int .i64 1))] ∧ k = 0 ∧ h' = [] := by
  have hpn := planNew_spec 0 (fun _ => 0) fun _ => 0
  have hly := lay3_nil 0 (fun _ => 0) fun _ => 0
  refine spec_of_ev Tryd.func15 ic15_eq (rs := [.t 2, .t 3, .t 4]) (by kernel_rfl) (by kernel_rfl) (by kernel_rfl) fun G hP hA => ?_
  unfold evF ic15
  conv => whnf
  (repeat' (first | (refine And.intro (by (first | omega | assumption | (simp only [nadd_eq]; omega) | (simp [nadd_eq]; omega))) ?_; conv => whnf) | (refine arI64 (by omega) (by omega) ?_; conv => whnf) | (refine arU32 (by omega) (by omega) ?_; conv => whnf) | (refine arU8 (by omega) (by omega) ?_; conv => whnf)))
  (refine call_auto hP (hpn) ?_; conv => whnf); (refine ⟨⟨rfl, rfl, rfl, (by repeat' (first | exact trivial | exact rfl | (intro _ _; exact rfl) | (intro _ hj; exact absurd hj (Nat.not_lt_zero _)) | exact Nat.le_refl _ | exact Or.inl (Or.inl (And.intro (fun h => h) rfl)) | exact Or.inl rfl | apply And.intro)), rfl, rfl⟩, ?_⟩; conv => whnf)
  (refine call_auto hP (hly) ?_; conv => whnf); (refine ⟨⟨rfl, rfl, rfl, (by repeat' (first | exact trivial | exact rfl | (intro _ _; exact rfl) | (intro _ hj; exact absurd hj (Nat.not_lt_zero _)) | exact Nat.le_refl _ | exact Or.inl (Or.inl (And.intro (fun h => h) rfl)) | exact Or.inl rfl | apply And.intro)), rfl, rfl⟩, ?_⟩; conv => whnf)
  (refine fin_auto ?_; conv => whnf); exact ⟨rfl, rfl, rfl, rfl, (by repeat' (first | exact trivial | exact rfl | (intro _ _; exact rfl) | (intro _ hj; exact absurd hj (Nat.not_lt_zero _)) | exact Nat.le_refl _ | exact Or.inl (Or.inl (And.intro (fun h => h) rfl)) | exact Or.inl rfl | apply And.intro)), rfl⟩
theorem awake17_spec : FSpec Tryd.prog 10 [] 0 [] fun x h n => x = sBool true ∧ n = 0 ∧ h = [] := by
  have h1 := buildNew3_nil
  have h2 := buildNew_bad (fun _ => 0) 1 8 0 0 0 0 0 0 7 .nilIface 0 (fun _ => 0) (fun _ => 0) (by decide) (layNone 1 _ _ (fun _ => 0) 1 8 0 0 0 0 0 0 (by omega))
  have h3 := buildNew3_open (fun _ => 0) 1 0 0 0 0 0 0 (by omega) rfl
  have h4 := memLen_spec 3 (cutF (clhWs (fun _ => 0) 0 1) 3) (clhHs (fun _ => 0) 0 (fun _ => 0) 1)
  refine spec_of_ev Tryd.func10 ic10_eq (rs := [.t 0]) (by kernel_rfl) (by kernel_rfl) (by kernel_rfl) fun G hP hA => ?_
  unfold evF ic10
  conv => whnf
  (refine call_auto hP (h1) ?_; conv => whnf); (refine ⟨⟨rfl, rfl, rfl, (by repeat' (first | exact trivial | exact rfl | (intro _ _; exact rfl) | (intro _ hj; exact absurd hj (Nat.not_lt_zero _)) | exact Nat.le_refl _ | exact Or.inl (Or.inl (And.intro (fun h => h) rfl)) | exact Or.inl rfl | apply And.intro)), rfl, rfl⟩, ?_⟩; conv => whnf)
  (refine call_auto hP (h2) ?_; conv => whnf); (refine ⟨⟨rfl, rfl, rfl, (by repeat' (first | exact trivial | exact rfl | (intro _ _; exact rfl) | (intro _ hj; exact absurd hj (Nat.not_lt_zero _)) | exact Nat.le_refl _ | exact Or.inl (Or.inl (And.intro (fun h => h) rfl)) | exact Or.inl rfl | apply And.intro)), rfl, rfl⟩, ?_⟩; conv => whnf)
  (refine call_auto hP (h3) ?_; conv => whnf); (refine ⟨⟨rfl, rfl, rfl, (by repeat' (first | exact trivial | exact rfl | (intro _ _; exact rfl) | (intro _ hj; exact absurd hj (Nat.not_lt_zero _)) | exact Nat.le_refl _ | exact Or.inl (Or.inl (And.intro (fun h => h) rfl)) | exact Or.inl rfl | apply And.intro)), rfl, rfl⟩, ?_⟩; conv => whnf)
  (refine call_auto hP (h4) ?_; conv => whnf); (refine ⟨⟨rfl, rfl, rfl, (by repeat' (first | exact trivial | exact rfl | (intro _ _; exact rfl) | (intro _ hj; exact absurd hj (Nat.not_lt_zero _)) | exact Nat.le_refl _ | exact Or.inl (Or.inl (And.intro (fun h => h) rfl)) | exact Or.inl rfl | apply And.intro)), rfl, rfl⟩, ?_⟩; conv => whnf)
  (refine fin_auto ?_; conv => whnf); exact ⟨rfl, rfl, rfl, rfl, (by repeat' (first | exact trivial | exact rfl | (intro _ _; exact rfl) | (intro _ hj; exact absurd hj (Nat.not_lt_zero _)) | exact Nat.le_refl _ | exact Or.inl (Or.inl (And.intro (fun h => h) rfl)) | exact Or.inl rfl | apply And.intro)), rfl⟩
end Go.Proofs.YtmccmanekbiadaaDoor
