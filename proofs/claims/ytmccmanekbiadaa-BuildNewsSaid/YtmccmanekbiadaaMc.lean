/- Build*: the document's examples. · The document's locks, made: seats; a port. · The document's locks, made: of six kinds. · The document's hierarchical lock, made; the words that locks begin with. · The document's lock of locks, made: how great it is. · The document's lock of locks, made: how great it is. · The document's lock of any kind, made, and its port. -/
import Derived.Test.YtmccmanekbiadaaMa
import Derived.Test.YtmccmanekbiadaaMb
set_option linter.unusedSimpArgs false
set_option linter.unusedVariables false
namespace Go.Proofs.Ytmccmanekbiadaa
open Go Go.Sx

theorem memLen_spec (n : Nat) (ws hs : Nat → Int) : FSpec Try.prog 15 [(0, some (memP n ws hs))] 1 [.l (.p 0 0 0 0)] fun x h k => x = sInt .i64 (n : Int) ∧ k = 1 ∧ h = [(0, some (memP n ws hs))] := by
  refine spec_of_ev_g (open_spec (memH n ws hs) 3 0 (by omega)) Try.func15 ic15_eq (rs := [.t 2]) (by kernel_rfl) (by kernel_rfl) (by kernel_rfl) fun G hP hA => ?_
  unfold evF ic15
  conv => whnf
  (refine fin_close (H := (memH n ws hs)) (np := 3) 0 0 (Nat.le_of_ble_eq_true rfl) ?_; conv => whnf); (refine ⟨⟨rfl, by omega, rfl, rfl, has_a, rfl⟩, ?_⟩)
  (refine fin_auto ?_; conv => whnf); exact ⟨rfl, rfl, rfl, rfl, has_a, rfl⟩
/-- A lock and its port, behind what made them: the port is open. -/
def portO (nt nw : Nat) (ws hs cp ms ac wr : Nat → Int) (k : Nat) : Heap := [(2, some (.st [.p k 0 0 0, .p (k + 1) 0 0 0, .s (k + 2) 2 0 nt 0])), (k, some (memP nw ws hs)), (k + 1, some (cacheP nw nt cp ms)), (k + 2, some (.ar 2 nt (pairE ac wr)))]
theorem port_open {P : Program} {f : FuncId} {pre : Heap} {np : Nat} {args : List AV} {X : SV} {L : Ent} {nt nw : Nat} {ws hs cp ms ac wr : Nat → Int} (hnp : np ≤ 3)
    (h : FSpec P f pre np args fun x h' k => x = X ∧ k = 3 ∧ h' = [(1, some L), (2, some (portP nt nw ws hs cp ms ac wr))])
    (hf : FinP np X ((renH (ren2 [2] 3) (portH nt nw ws hs cp ms ac wr) ++ [(2, none)]) ++ [(1, some L), (2, some (portP nt nw ws hs cp ms ac wr))]) 6 fun x h' k => x = X ∧ k = 6 ∧ h' = (1, some L) :: portO nt nw ws hs cp ms ac wr 3) :
    FSpec P f pre np args fun x h' k => x = X ∧ k = 6 ∧ h' = (1, some L) :: portO nt nw ws hs cp ms ac wr 3 := by
  refine FSpec.refin h fun x h' k hx hk => ?_
  obtain ⟨rfl, rfl, rfl⟩ := hx
  exact finP_ghost (open_at 2 (ks := []) (H := portH nt nw ws hs cp ms ac wr) (np := 4) rfl (by decide) rfl rfl rfl) hnp hf
theorem buildNew3_open (h : Nat → Int) (m : Nat) (start slots pool budget glob loc : Int) (hm : 1 ≤ m ∧ m ≤ 64) (hb : anyZ badH h m = false) :
    FSpec Try.prog 11 [(0, some (.ro 1 m (numE h)))] 1 [confA 3 0 m start slots pool budget glob loc] fun x h' k =>
      x = .t [.l (.i 160 1), .l (.p 2 0 0 0), .l (.v (.int .i64 0))] ∧ k = 6 ∧ h' = (1, some (.ob [2] (PackR (clhH1 m 0 (fun _ => 0) (fun _ => -1) (fun i => i + 1) (fun _ => 0) fun _ => 0) 4))) ::
        portO m (2 + m) (cutF (clhWs (fun _ => 0) 0 m) (2 + m)) (clhHs (fun _ => 0) 0 h m) (fun _ => 0) (fun _ => 0) (fun _ => 0) (fun _ => 0) 3 := by
  refine port_open (by omega) (buildNew3_ok h m start slots pool budget glob loc hm hb) ?_
  refine finP_intro [0, 1, 2, 3, 4, 5] _ _ 6 rfl ⟨rfl, rfl, rfl⟩ rfl rfl rfl ?_ rfl
  exact has_a
def confN (kind : Int) : AV := .a [.v (.int .i64 kind), .v (.slice none 0 0), .v (.int .u32 0), .v (.int .i64 0), .v (.int .i64 0), .v (.int .i64 0), .v (.int .i64 0), .v (.int .i64 0)]
theorem clhNew_nil (th : Int) (M : Nat) (hs ws : Nat → Int) :
    FSpec Try.prog 65 [(0, some (planP th M hs ws))] 1 [.l (.p 0 0 0 0), .l (.v (.slice none 0 0))] fun x h' k => x = .t [.l (.v (.pointer none)), .l (.v (.int .i64 1))] ∧ k = 1 ∧ h' = [(0, some (planP th M hs ws))] := by
  have hse := seatNew_bad 0 false true (by omega)
  refine spec_of_ev Try.func65 ic65_eq (rs := [.t 4, .t 5]) (by kernel_rfl) (by kernel_rfl) (by kernel_rfl) fun G hP hA => ?_
  unfold evF ic65
  conv => whnf
  (refine call_auto hP (hse) ?_; conv => whnf); (refine ⟨⟨rfl, rfl, rfl, has_a, rfl, rfl⟩, ?_⟩; conv => whnf)
  (refine fin_auto ?_; conv => whnf); exact ⟨rfl, rfl, rfl, rfl, has_a, rfl⟩
theorem lay3_nil (th : Int) (hs ws : Nat → Int) :
    FSpec Try.prog 35 [(0, some (planP th 0 hs ws))] 1 [.l (.p 0 0 0 0), confN 3] fun x h' k =>
      x = .t [.l (.v (.iface 160 (.pointer none))), .l (.v (.int .i64 1))] ∧ k = 1 ∧ h' = [(0, some (planP th 0 hs ws))] := by
  have hcn := clhNew_nil th 0 hs ws
  refine spec_of_ev Try.func35 ic35_eq (rs := [.t 4, .t 5]) (by kernel_rfl) (by kernel_rfl) (by kernel_rfl) fun G hP hA => ?_
  unfold evF ic35
  conv => whnf
  (refine call_auto hP (hcn) ?_; conv => whnf); (refine ⟨⟨rfl, rfl, rfl, has_a, rfl, rfl⟩, ?_⟩; conv => whnf)
  (refine fin_auto ?_; conv => whnf); exact ⟨rfl, rfl, rfl, rfl, has_a, rfl⟩
theorem buildNew3_nil : FSpec Try.prog 11 [] 0 [confN 3] fun x h' k => x = .t [.l (.v .nilIface), .l (.v (.pointer none)), .l (.v (.int .i64 1))] ∧ k = 0 ∧ h' = [] := by
  have hpn := planNew_spec 0 (fun _ => 0) fun _ => 0
  have hly := lay3_nil 0 (fun _ => 0) fun _ => 0
  refine spec_of_ev Try.func11 ic11_eq (rs := [.t 2, .t 3, .t 4]) (by kernel_rfl) (by kernel_rfl) (by kernel_rfl) fun G hP hA => ?_
  unfold evF ic11
  conv => whnf
  (repeat' (first | (refine And.intro (by (first | omega | assumption | (simp only [nadd_eq]; omega) | (simp [nadd_eq]; omega))) ?_; conv => whnf) | (refine arI64 (by omega) (by omega) ?_; conv => whnf) | (refine arU32 (by omega) (by omega) ?_; conv => whnf) | (refine arU8 (by omega) (by omega) ?_; conv => whnf)))
  (refine call_auto hP (hpn) ?_; conv => whnf); (refine ⟨⟨rfl, rfl, rfl, has_a, rfl, rfl⟩, ?_⟩; conv => whnf)
  (refine call_auto hP (hly) ?_; conv => whnf); (refine ⟨⟨rfl, rfl, rfl, has_a, rfl, rfl⟩, ?_⟩; conv => whnf)
  (refine fin_auto ?_; conv => whnf); exact ⟨rfl, rfl, rfl, rfl, has_a, rfl⟩
theorem awake17_spec : FSpec Try.prog 10 [] 0 [] fun x h n => x = sBool true ∧ n = 0 ∧ h = [] := by
  have h1 := buildNew3_nil
  have h2 := buildNew_bad (fun _ => 0) 1 8 0 0 0 0 0 0 7 .nilIface 0 (fun _ => 0) (fun _ => 0) (by decide) (layNone 1 _ _ (fun _ => 0) 1 8 0 0 0 0 0 0 (by omega))
  have h3 := buildNew3_open (fun _ => 0) 1 0 0 0 0 0 0 (by omega) rfl
  have h4 := memLen_spec 3 (cutF (clhWs (fun _ => 0) 0 1) 3) (clhHs (fun _ => 0) 0 (fun _ => 0) 1)
  refine spec_of_ev Try.func10 ic10_eq (rs := [.t 0]) (by kernel_rfl) (by kernel_rfl) (by kernel_rfl) fun G hP hA => ?_
  unfold evF ic10
  conv => whnf
  (refine call_auto hP (h1) ?_; conv => whnf); (refine ⟨⟨rfl, rfl, rfl, has_a, rfl, rfl⟩, ?_⟩; conv => whnf)
  (refine call_auto hP (h2) ?_; conv => whnf); (refine ⟨⟨rfl, rfl, rfl, has_a, rfl, rfl⟩, ?_⟩; conv => whnf)
  (refine call_auto hP (h3) ?_; conv => whnf); (refine ⟨⟨rfl, rfl, rfl, has_a, rfl, rfl⟩, ?_⟩; conv => whnf)
  (refine call_auto hP (h4) ?_; conv => whnf); (refine ⟨⟨rfl, rfl, rfl, has_a, rfl, rfl⟩, ?_⟩; conv => whnf)
  (refine fin_auto ?_; conv => whnf); exact ⟨rfl, rfl, rfl, rfl, has_a, rfl⟩
end Go.Proofs.Ytmccmanekbiadaa
set_option linter.unusedSimpArgs false
set_option linter.unusedVariables false
namespace Go.Proofs.Ytmccmanekbiadaa
open Go Go.Sx

/-- The document's seats. -/
def rSeatH (n : Nat) (st dl : Nat → Int) (a b : Bool) : Heap := [(0, some (.st [.s 1 1 0 n 0, .s 2 1 0 n 0, .v (.bool a), .v (.bool b)])), (1, some (.ar 1 n (numE st))), (2, some (.ar 1 n (numE dl)))]
def rSeatP (n : Nat) (st dl : Nat → Int) (a b : Bool) : Ent := .ob [] (PackR (rSeatH n st dl a b) 3)
theorem rSeat_spec (n : Nat) (a b : Bool) (hn : n ≤ 1000) : FSpec Try.prog 70 [] 0 [.l (.v (.int .i64 n)), .l (.v (.bool a)), .l (.v (.bool b))] fun x h k =>
    x = .o (.l (.p 0 0 0 0)) ∧ k = 1 ∧ h = [(0, some (rSeatP n (fun _ => 0) (fun _ => -1) a b))] := by
  refine spec_of_ev Try.func70 ic70_eq (rs := [.t 6]) (by kernel_rfl) (by kernel_rfl) (by kernel_rfl) fun G hP hA => ?_
  unfold evF ic70
  conv => whnf
  refine loop_auto (α := Nat) (ds := []) (N := 3) (fun i => [(8, sInt .i64 (i : Int))]) []
    (fun i => [(0, some (.st [.s 1 1 0 i 0, .s 2 1 0 i 0, .v (.bool a), .v (.bool b)])), (1, some (.ar 1 i (numE fun _ => 0))), (2, some (.ar 1 i (numE fun _ => -1)))])
    (fun i => i ≤ n) (fun i => n - i) 0 (Nat.zero_le _) ?_ fun i hi => ?_
  · conv => whnf
    refine Imp.trans (imp_ghost ((GSpec.nilc 0 0 1 (numE fun _ => 0) rfl rfl).trans (GSpec.nilc 0 1 1 (numE fun _ => -1) rfl rfl))) ?_
    (conv => whnf); (refine imp_auto hA ?_; conv => whnf); exact ⟨rfl, rfl, rfl, regs_a, has_a, rfl⟩
  · conv => whnf
    refine dsplit (fun h1 => ?_) (fun h1 => ?_)
    · replace h1 : (i : Int) < (n : Int) := h1
      conv => whnf
      (repeat' (first | (refine And.intro (by (first | omega | assumption | (simp only [nadd_eq]; omega) | (simp [nadd_eq]; omega))) ?_; conv => whnf) | (refine arI64 (by omega) (by omega) ?_; conv => whnf) | (refine arU32 (by omega) (by omega) ?_; conv => whnf) | (refine arU8 (by omega) (by omega) ?_; conv => whnf)))
      refine ⟨i + 1, by omega, by omega, ?_⟩
      (conv => whnf); (refine imp_auto hA ?_; conv => whnf); refine ⟨rfl, rfl, rfl, regs_a, ?_, rfl⟩
      exact ⟨rfl, ⟨rfl, rfl, fun j hj => snoc_rows (f := numE fun _ => 0) (i := i) rfl j hj⟩, ⟨rfl, rfl, fun j hj => snoc_rows (f := numE fun _ => -1) (i := i) rfl j hj⟩, has_a⟩
    · replace h1 : ¬ (i : Int) < (n : Int) := h1
      obtain rfl : i = n := by omega
      conv => whnf
      (refine fin_close (H := (rSeatH i (fun _ => 0) (fun _ => -1) a b)) (np := 3) 0 0 (Nat.le_of_ble_eq_true rfl) ?_; conv => whnf); (refine ⟨⟨rfl, by omega, rfl, rfl, has_a, rfl⟩, ?_⟩)
      (refine fin_auto ?_; conv => whnf); exact ⟨rfl, rfl, rfl, rfl, has_a, rfl⟩
def tripE (a b c : Nat → Int) : Nat → List Value := fun i => [.int .i64 (a i), .int .i64 (b i), .int .i64 (c i)]
end Go.Proofs.Ytmccmanekbiadaa
set_option linter.unusedSimpArgs false
set_option linter.unusedVariables false
namespace Go.Proofs.Ytmccmanekbiadaa
open Go Go.Sx

/-- The document's ticket lock. -/
def r10H (n : Nat) (at_ : Int) (st dl pc mine : Nat → Int) : Heap := [(0, some (.st [.p 1 0 0 0, .v (.int .i64 at_), .s 2 1 0 n 0, .s 3 1 0 n 0])), (1, some (rSeatP n st dl false true)), (2, some (.ar 1 n (numE pc))), (3, some (.ar 1 n (wordE mine)))]
def r10P (n : Nat) (at_ : Int) (st dl pc mine : Nat → Int) : Ent := .ob [] (PackR (r10H n at_ st dl pc mine) 4)
/-- .. Anderson's lock. -/
def r11H (n : Nat) (at_ : Int) (sl : Nat) (st dl pc own : Nat → Int) : Heap := [(0, some (.st [.p 1 0 0 0, .v (.int .i64 at_), .v (.int .i64 sl), .s 2 1 0 n 0, .s 3 1 0 n 0])), (1, some (rSeatP n st dl false false)), (2, some (.ar 1 n (numE pc))), (3, some (.ar 1 n (numE own)))]
def r11P (n : Nat) (at_ : Int) (sl : Nat) (st dl pc own : Nat → Int) : Ent := .ob [] (PackR (r11H n at_ sl st dl pc own) 4)
/-- .. that of Craig, Landin and Hagersten. -/
def r12H (n : Nat) (at_ : Int) (st dl pc node ahead : Nat → Int) : Heap := [(0, some (.st [.p 1 0 0 0, .v (.int .i64 at_), .s 2 1 0 n 0, .s 3 1 0 n 0, .s 4 1 0 n 0])), (1, some (rSeatP n st dl false true)), (2, some (.ar 1 n (numE pc))), (3, some (.ar 1 n (numE node))), (4, some (.ar 1 n (numE ahead)))]
def r12P (n : Nat) (at_ : Int) (st dl pc node ahead : Nat → Int) : Ent := .ob [] (PackR (r12H n at_ st dl pc node ahead) 5)
/-- .. that of Mellor-Crummey and Scott. -/
def r13H (n : Nat) (at_ : Int) (st dl pc other : Nat → Int) : Heap := [(0, some (.st [.p 1 0 0 0, .v (.int .i64 at_), .s 2 1 0 n 0, .s 3 1 0 n 0])), (1, some (rSeatP n st dl false true)), (2, some (.ar 1 n (numE pc))), (3, some (.ar 1 n (numE other)))]
def r13P (n : Nat) (at_ : Int) (st dl pc other : Nat → Int) : Ent := .ob [] (PackR (r13H n at_ st dl pc other) 4)
/-- .. the one that can be given up. -/
def r14H (n : Nat) (at_ each : Int) (st dl pc node other tried : Nat → Int) : Heap := [(0, some (.st [.p 1 0 0 0, .v (.int .i64 at_), .v (.int .i64 each), .s 2 1 0 n 0, .s 3 1 0 n 0, .s 4 1 0 n 0, .s 5 1 0 n 0])), (1, some (rSeatP n st dl true false)), (2, some (.ar 1 n (numE pc))), (3, some (.ar 1 n (numE node))), (4, some (.ar 1 n (numE other))), (5, some (.ar 1 n (numE tried)))]
def r14P (n : Nat) (at_ each : Int) (st dl pc node other tried : Nat → Int) : Ent := .ob [] (PackR (r14H n at_ each st dl pc node other tried) 6)
/-- .. the hierarchical one. -/
def r15H (n : Nat) (at_ : Int) (st dl cl pc node ahead of_ word : Nat → Int) : Heap := [(0, some (.st [.p 1 0 0 0, .v (.int .i64 at_), .s 2 1 0 n 0, .s 3 1 0 n 0, .s 4 1 0 n 0, .s 5 1 0 n 0, .s 6 1 0 n 0, .s 7 1 0 n 0])), (1, some (rSeatP n st dl false false)), (2, some (.ar 1 n (numE cl))), (3, some (.ar 1 n (numE pc))), (4, some (.ar 1 n (numE node))), (5, some (.ar 1 n (numE ahead))), (6, some (.ar 1 n (numE of_))), (7, some (.ar 1 n (wordE word)))]
def r15P (n : Nat) (at_ : Int) (st dl cl pc node ahead of_ word : Nat → Int) : Ent := .ob [] (PackR (r15H n at_ st dl cl pc node ahead of_ word) 8)
theorem r10_spec (n : Nat) (at_ : Int) (hn : n ≤ 1000) : FSpec Try.prog 39 [] 0 [.l (.v (.int .i64 n)), .l (.v (.int .i64 at_))] fun x h' k =>
    x = .o (.l (.p 0 0 0 0)) ∧ k = 1 ∧ h' = [(0, some (r10P n at_ (fun _ => 0) (fun _ => -1) (fun _ => 0) fun _ => 0))] := by
  have hse := rSeat_spec n false true hn
  refine spec_of_ev Try.func39 ic39_eq (rs := [.t 4]) (by kernel_rfl) (by kernel_rfl) (by kernel_rfl) fun G hP hA => ?_
  unfold evF ic39
  conv => whnf
  refine draw_to (ds := []) 4 [(4, .o (.l (.p 0 0 0 0)))] [] [(0, some (.st [.p 1 0 0 0, .v (.int .i64 at_), .s 2 1 0 n 0, .s 3 1 0 n 0])), (1, some (rSeatP n (fun _ => 0) (fun _ => -1) false true)), (2, some (.ar 1 n (numE fun _ => 0))), (3, some (.ar 1 n (wordE fun _ => 0)))] ?_ ?_
  · conv => whnf
    (refine drawP_lazy (by rw [hP]; exact follows) 60 (by kernel_rfl) ?_; conv => whnf)
    repeat' (first | (refine And.intro (by first | omega | (simp [nadd_eq]; omega)) ?_; conv => whnf) | (refine arI64 (by omega) (by omega) ?_; conv => whnf) | (refine And.intro ?_ ?_ <;> (conv => whnf)))
    all_goals (refine callD_auto hP (hse) ?_; conv => whnf); (refine ⟨⟨rfl, rfl, rfl, has_a, rfl, rfl⟩, ?_⟩; conv => whnf)
    repeat' (first | (refine And.intro (by first | omega | (simp [nadd_eq]; omega)) ?_; conv => whnf) | (refine arI64 (by omega) (by omega) ?_; conv => whnf) | (refine And.intro ?_ ?_ <;> (conv => whnf)))
    all_goals (conv => whnf); (refine imp_auto hA ?_; conv => whnf); exact ⟨rfl, rfl, rfl, regs_a, has_a, rfl⟩
  conv => whnf
  (refine fin_close (H := (r10H n at_ (fun _ => 0) (fun _ => -1) (fun _ => 0) fun _ => 0)) (np := 4) 0 0 (Nat.le_of_ble_eq_true rfl) ?_; conv => whnf); (refine ⟨⟨rfl, by omega, rfl, rfl, has_a, rfl⟩, ?_⟩)
  (refine fin_auto ?_; conv => whnf); exact ⟨rfl, rfl, rfl, rfl, has_a, rfl⟩
theorem r13_spec (n : Nat) (at_ : Int) (hn : n ≤ 1000) : FSpec Try.prog 44 [] 0 [.l (.v (.int .i64 n)), .l (.v (.int .i64 at_))] fun x h' k =>
    x = .o (.l (.p 0 0 0 0)) ∧ k = 1 ∧ h' = [(0, some (r13P n at_ (fun _ => 0) (fun _ => -1) (fun _ => 0) fun _ => 0))] := by
  have hse := rSeat_spec n false true hn
  refine spec_of_ev Try.func44 ic44_eq (rs := [.t 4]) (by kernel_rfl) (by kernel_rfl) (by kernel_rfl) fun G hP hA => ?_
  unfold evF ic44
  conv => whnf
  refine draw_to (ds := []) 4 [(4, .o (.l (.p 0 0 0 0)))] [] [(0, some (.st [.p 1 0 0 0, .v (.int .i64 at_), .s 2 1 0 n 0, .s 3 1 0 n 0])), (1, some (rSeatP n (fun _ => 0) (fun _ => -1) false true)), (2, some (.ar 1 n (numE fun _ => 0))), (3, some (.ar 1 n (numE fun _ => 0)))] ?_ ?_
  · conv => whnf
    (refine drawP_lazy (by rw [hP]; exact follows) 60 (by kernel_rfl) ?_; conv => whnf)
    repeat' (first | (refine And.intro (by first | omega | (simp [nadd_eq]; omega)) ?_; conv => whnf) | (refine arI64 (by omega) (by omega) ?_; conv => whnf) | (refine And.intro ?_ ?_ <;> (conv => whnf)))
    all_goals (refine callD_auto hP (hse) ?_; conv => whnf); (refine ⟨⟨rfl, rfl, rfl, has_a, rfl, rfl⟩, ?_⟩; conv => whnf)
    repeat' (first | (refine And.intro (by first | omega | (simp [nadd_eq]; omega)) ?_; conv => whnf) | (refine arI64 (by omega) (by omega) ?_; conv => whnf) | (refine And.intro ?_ ?_ <;> (conv => whnf)))
    all_goals (conv => whnf); (refine imp_auto hA ?_; conv => whnf); exact ⟨rfl, rfl, rfl, regs_a, has_a, rfl⟩
  conv => whnf
  (refine fin_close (H := (r13H n at_ (fun _ => 0) (fun _ => -1) (fun _ => 0) fun _ => 0)) (np := 4) 0 0 (Nat.le_of_ble_eq_true rfl) ?_; conv => whnf); (refine ⟨⟨rfl, by omega, rfl, rfl, has_a, rfl⟩, ?_⟩)
  (refine fin_auto ?_; conv => whnf); exact ⟨rfl, rfl, rfl, rfl, has_a, rfl⟩
theorem r11_spec (n sl : Nat) (at_ : Int) (hn : n ≤ 1000) : FSpec Try.prog 41 [] 0 [.l (.v (.int .i64 n)), .l (.v (.int .i64 sl)), .l (.v (.int .i64 at_))] fun x h' k =>
    x = .o (.l (.p 0 0 0 0)) ∧ k = 1 ∧ h' = [(0, some (r11P n at_ sl (fun _ => 0) (fun _ => -1) (fun _ => 0) fun _ => 0))] := by
  have hse := rSeat_spec n false false hn
  refine spec_of_ev Try.func41 ic41_eq (rs := [.t 6]) (by kernel_rfl) (by kernel_rfl) (by kernel_rfl) fun G hP hA => ?_
  unfold evF ic41
  conv => whnf
  refine draw_to (ds := []) 4 [(6, .o (.l (.p 0 0 0 0)))] [] [(0, some (.st [.p 1 0 0 0, .v (.int .i64 at_), .v (.int .i64 sl), .s 2 1 0 n 0, .s 3 1 0 n 0])), (1, some (rSeatP n (fun _ => 0) (fun _ => -1) false false)), (2, some (.ar 1 n (numE fun _ => 0))), (3, some (.ar 1 n (numE fun _ => 0)))] ?_ ?_
  · conv => whnf
    (refine drawP_lazy (by rw [hP]; exact follows) 60 (by kernel_rfl) ?_; conv => whnf)
    repeat' (first | (refine And.intro (by first | omega | (simp [nadd_eq]; omega)) ?_; conv => whnf) | (refine arI64 (by omega) (by omega) ?_; conv => whnf) | (refine And.intro ?_ ?_ <;> (conv => whnf)))
    all_goals (refine callD_auto hP (hse) ?_; conv => whnf); (refine ⟨⟨rfl, rfl, rfl, has_a, rfl, rfl⟩, ?_⟩; conv => whnf)
    repeat' (first | (refine And.intro (by first | omega | (simp [nadd_eq]; omega)) ?_; conv => whnf) | (refine arI64 (by omega) (by omega) ?_; conv => whnf) | (refine And.intro ?_ ?_ <;> (conv => whnf)))
    all_goals (conv => whnf); (refine imp_auto hA ?_; conv => whnf); exact ⟨rfl, rfl, rfl, regs_a, has_a, rfl⟩
  conv => whnf
  (refine fin_close (H := (r11H n at_ sl (fun _ => 0) (fun _ => -1) (fun _ => 0) fun _ => 0)) (np := 4) 0 0 (Nat.le_of_ble_eq_true rfl) ?_; conv => whnf); (refine ⟨⟨rfl, by omega, rfl, rfl, has_a, rfl⟩, ?_⟩)
  (refine fin_auto ?_; conv => whnf); exact ⟨rfl, rfl, rfl, rfl, has_a, rfl⟩
theorem r12_spec (n : Nat) (at_ : Int) (hn : n ≤ 1000) : FSpec Try.prog 43 [] 0 [.l (.v (.int .i64 n)), .l (.v (.int .i64 at_))] fun x h' k =>
    x = .o (.l (.p 0 0 0 0)) ∧ k = 1 ∧ h' = [(0, some (r12P n at_ (fun _ => 0) (fun _ => -1) (fun _ => 0) (fun i => i + 1) fun _ => 0))] := by
  have hse := rSeat_spec n false true hn
  refine spec_of_ev Try.func43 ic43_eq (rs := [.t 4]) (by kernel_rfl) (by kernel_rfl) (by kernel_rfl) fun G hP hA => ?_
  unfold evF ic43
  conv => whnf
  refine draw_to (ds := []) 4 [(5, .o (.l (.p 0 0 0 0)))] [] [(0, some (.st [.p 1 0 0 0, .v (.int .i64 at_), .s 2 1 0 n 0, .v (.slice none 0 0), .s 3 1 0 n 0])), (1, some (rSeatP n (fun _ => 0) (fun _ => -1) false true)), (2, some (.ar 1 n (numE fun _ => 0))), (3, some (.ar 1 n (numE fun _ => 0)))] ?_ ?_
  · conv => whnf
    (refine drawP_lazy (by rw [hP]; exact follows) 60 (by kernel_rfl) ?_; conv => whnf)
    repeat' (first | (refine And.intro (by first | omega | (simp [nadd_eq]; omega)) ?_; conv => whnf) | (refine arI64 (by omega) (by omega) ?_; conv => whnf) | (refine And.intro ?_ ?_ <;> (conv => whnf)))
    all_goals (refine callD_auto hP (hse) ?_; conv => whnf); (refine ⟨⟨rfl, rfl, rfl, has_a, rfl, rfl⟩, ?_⟩; conv => whnf)
    repeat' (first | (refine And.intro (by first | omega | (simp [nadd_eq]; omega)) ?_; conv => whnf) | (refine arI64 (by omega) (by omega) ?_; conv => whnf) | (refine And.intro ?_ ?_ <;> (conv => whnf)))
    all_goals (conv => whnf); (refine imp_auto hA ?_; conv => whnf); exact ⟨rfl, rfl, rfl, regs_a, has_a, rfl⟩
  conv => whnf
  refine loop_auto (α := Nat) (ds := []) (N := 5) (fun i => [(6, sInt .i64 (i : Int))]) []
    (fun i => [(0, some (.st [.p 1 0 0 0, .v (.int .i64 at_), .s 2 1 0 n 0, .s 4 1 0 i 0, .s 3 1 0 n 0])), (4, some (.ar 1 i (numE fun i => i + 1)))])
    (fun i => i ≤ n) (fun i => n - i) 0 (Nat.zero_le _) ?_ fun i hi => ?_
  · conv => whnf
    refine Imp.trans (imp_ghost (GSpec.nilc 0 3 1 (numE fun i => i + 1) rfl rfl)) ?_
    (conv => whnf); (refine imp_auto hA ?_; conv => whnf); exact ⟨rfl, rfl, rfl, regs_a, has_a, rfl⟩
  · conv => whnf
    refine dsplit (fun h1 => ?_) (fun h1 => ?_)
    · replace h1 : (i : Int) < (n : Int) := h1
      conv => whnf
      (repeat' (first | (refine And.intro (by (first | omega | assumption | (simp only [nadd_eq]; omega) | (simp [nadd_eq]; omega))) ?_; conv => whnf) | (refine arI64 (by omega) (by omega) ?_; conv => whnf) | (refine arU32 (by omega) (by omega) ?_; conv => whnf) | (refine arU8 (by omega) (by omega) ?_; conv => whnf)))
      refine ⟨i + 1, by omega, by omega, ?_⟩
      (conv => whnf); (refine imp_auto hA ?_; conv => whnf); refine ⟨rfl, rfl, rfl, regs_a, ?_, rfl⟩
      exact ⟨rfl, ⟨rfl, rfl, fun j hj => snoc_rows (f := numE fun i => i + 1) (i := i) rfl j hj⟩, has_a⟩
    · replace h1 : ¬ (i : Int) < (n : Int) := h1
      obtain rfl : i = n := by omega
      conv => whnf
      (refine fin_close (H := (r12H i at_ (fun _ => 0) (fun _ => -1) (fun _ => 0) (fun i => i + 1) fun _ => 0)) (np := 5) 0 0 (Nat.le_of_ble_eq_true rfl) ?_; conv => whnf); (refine ⟨⟨rfl, by omega, rfl, rfl, has_a, rfl⟩, ?_⟩)
      (refine fin_auto ?_; conv => whnf); exact ⟨rfl, rfl, rfl, rfl, has_a, rfl⟩
theorem r14_spec (n : Nat) (each at_ : Int) (hn : n ≤ 1000) : FSpec Try.prog 45 [] 0 [.l (.v (.int .i64 n)), .l (.v (.int .i64 each)), .l (.v (.int .i64 at_))] fun x h' k =>
    x = .o (.l (.p 0 0 0 0)) ∧ k = 1 ∧ h' = [(0, some (r14P n at_ each (fun _ => 0) (fun _ => -1) (fun _ => 1) (fun _ => 0) (fun _ => 0) fun _ => 0))] := by
  have hse := rSeat_spec n true false hn
  refine spec_of_ev Try.func45 ic45_eq (rs := [.t 6]) (by kernel_rfl) (by kernel_rfl) (by kernel_rfl) fun G hP hA => ?_
  unfold evF ic45
  conv => whnf
  refine draw_to (ds := []) 5 [(7, .o (.l (.p 0 0 0 0)))] [] [(0, some (.st [.p 1 0 0 0, .v (.int .i64 at_), .v (.int .i64 each), .v (.slice none 0 0), .s 2 1 0 n 0, .s 3 1 0 n 0, .s 4 1 0 n 0])), (1, some (rSeatP n (fun _ => 0) (fun _ => -1) true false)), (2, some (.ar 1 n (numE fun _ => 0))), (3, some (.ar 1 n (numE fun _ => 0))), (4, some (.ar 1 n (numE fun _ => 0)))] ?_ ?_
  · conv => whnf
    (refine drawP_lazy (by rw [hP]; exact follows) 60 (by kernel_rfl) ?_; conv => whnf)
    repeat' (first | (refine And.intro (by first | omega | (simp [nadd_eq]; omega)) ?_; conv => whnf) | (refine arI64 (by omega) (by omega) ?_; conv => whnf) | (refine And.intro ?_ ?_ <;> (conv => whnf)))
    all_goals (refine callD_auto hP (hse) ?_; conv => whnf); (refine ⟨⟨rfl, rfl, rfl, has_a, rfl, rfl⟩, ?_⟩; conv => whnf)
    repeat' (first | (refine And.intro (by first | omega | (simp [nadd_eq]; omega)) ?_; conv => whnf) | (refine arI64 (by omega) (by omega) ?_; conv => whnf) | (refine And.intro ?_ ?_ <;> (conv => whnf)))
    all_goals (conv => whnf); (refine imp_auto hA ?_; conv => whnf); exact ⟨rfl, rfl, rfl, regs_a, has_a, rfl⟩
  conv => whnf
  refine loop_auto (α := Nat) (ds := []) (N := 6) (fun i => [(8, sInt .i64 (i : Int))]) []
    (fun i => [(0, some (.st [.p 1 0 0 0, .v (.int .i64 at_), .v (.int .i64 each), .s 5 1 0 i 0, .s 2 1 0 n 0, .s 3 1 0 n 0, .s 4 1 0 n 0])), (5, some (.ar 1 i (numE fun _ => 1)))])
    (fun i => i ≤ n) (fun i => n - i) 0 (Nat.zero_le _) ?_ fun i hi => ?_
  · conv => whnf
    refine Imp.trans (imp_ghost (GSpec.nilc 0 3 1 (numE fun _ => 1) rfl rfl)) ?_
    (conv => whnf); (refine imp_auto hA ?_; conv => whnf); exact ⟨rfl, rfl, rfl, regs_a, has_a, rfl⟩
  · conv => whnf
    refine dsplit (fun h1 => ?_) (fun h1 => ?_)
    · replace h1 : (i : Int) < (n : Int) := h1
      conv => whnf
      (repeat' (first | (refine And.intro (by (first | omega | assumption | (simp only [nadd_eq]; omega) | (simp [nadd_eq]; omega))) ?_; conv => whnf) | (refine arI64 (by omega) (by omega) ?_; conv => whnf) | (refine arU32 (by omega) (by omega) ?_; conv => whnf) | (refine arU8 (by omega) (by omega) ?_; conv => whnf)))
      refine ⟨i + 1, by omega, by omega, ?_⟩
      (conv => whnf); (refine imp_auto hA ?_; conv => whnf); refine ⟨rfl, rfl, rfl, regs_a, ?_, rfl⟩
      exact ⟨rfl, ⟨rfl, rfl, fun j hj => snoc_rows (f := numE fun _ => 1) (i := i) rfl j hj⟩, has_a⟩
    · replace h1 : ¬ (i : Int) < (n : Int) := h1
      obtain rfl : i = n := by omega
      conv => whnf
      (refine fin_close (H := (r14H i at_ each (fun _ => 0) (fun _ => -1) (fun _ => 1) (fun _ => 0) (fun _ => 0) fun _ => 0)) (np := 6) 0 0 (Nat.le_of_ble_eq_true rfl) ?_; conv => whnf); (refine ⟨⟨rfl, by omega, rfl, rfl, has_a, rfl⟩, ?_⟩)
      (refine fin_auto ?_; conv => whnf); exact ⟨rfl, rfl, rfl, rfl, has_a, rfl⟩
end Go.Proofs.Ytmccmanekbiadaa
set_option linter.unusedSimpArgs false
set_option linter.unusedVariables false
namespace Go.Proofs.Ytmccmanekbiadaa
open Go Go.Sx

set_option maxRecDepth 4000 in
set_option maxHeartbeats 4000000 in
theorem r15_spec (n : Nat) (h : Nat → Int) (at_ : Int) (hn : n ≤ 1000) : FSpec Try.prog 46 [(0, some (.ro 1 n (numE h)))] 1 [.l (.s 0 1 0 n 0), .l (.v (.int .i64 at_))] fun x h' k =>
    x = .o (.l (.p 1 0 0 0)) ∧ k = 2 ∧ h' = [(1, some (r15P n at_ (fun _ => 0) (fun _ => -1) h (fun _ => 0) (fun i => i + 1) (fun _ => 0) (fun _ => 0) fun _ => 0))] := by
  have hse := rSeat_spec n false false hn
  refine spec_of_ev Try.func46 ic46_eq (rs := [.t 4]) (by kernel_rfl) (by kernel_rfl) (by kernel_rfl) fun G hP hA => ?_
  unfold evF ic46
  conv => whnf
  refine draw_to (ds := []) 7 [(6, .o (.l (.p 1 0 0 0)))] [] [(1, some (.st [.p 2 0 0 0, .v (.int .i64 at_), .v (.slice none 0 0), .s 3 1 0 n 0, .v (.slice none 0 0), .s 4 1 0 n 0, .s 5 1 0 n 0, .s 6 1 0 n 0])), (2, some (rSeatP n (fun _ => 0) (fun _ => -1) false false)), (3, some (.ar 1 n (numE fun _ => 0))), (4, some (.ar 1 n (numE fun _ => 0))), (5, some (.ar 1 n (numE fun _ => 0))), (6, some (.ar 1 n (wordE fun _ => 0)))] ?_ ?_
  · conv => whnf
    (refine drawP_lazy (by rw [hP]; exact follows) 60 (by kernel_rfl) ?_; conv => whnf)
    repeat' (first | (refine And.intro (by first | omega | (simp [nadd_eq]; omega)) ?_; conv => whnf) | (refine arI64 (by omega) (by omega) ?_; conv => whnf) | (refine And.intro ?_ ?_ <;> (conv => whnf)))
    all_goals (refine callD_auto hP (hse) ?_; conv => whnf); (refine ⟨⟨rfl, rfl, rfl, has_a, rfl, rfl⟩, ?_⟩; conv => whnf)
    repeat' (first | (refine And.intro (by first | omega | (simp [nadd_eq]; omega)) ?_; conv => whnf) | (refine arI64 (by omega) (by omega) ?_; conv => whnf) | (refine And.intro ?_ ?_ <;> (conv => whnf)))
    all_goals (conv => whnf); (refine imp_auto hA ?_; conv => whnf); exact ⟨rfl, rfl, rfl, regs_a, has_a, rfl⟩
  conv => whnf
  (repeat' (first | (refine And.intro (by (first | omega | assumption | (simp only [nadd_eq]; omega) | (simp [nadd_eq]; omega))) ?_; conv => whnf) | (refine arI64 (by omega) (by omega) ?_; conv => whnf) | (refine arU32 (by omega) (by omega) ?_; conv => whnf) | (refine arU8 (by omega) (by omega) ?_; conv => whnf)))
  refine loop_auto (α := Nat) (ds := []) (N := 9) (fun i => [(7, sInt .i64 (i : Int))]) []
    (fun i => [(1, some (.st [.p 2 0 0 0, .v (.int .i64 at_), .s 7 1 0 n 0, .s 3 1 0 n 0, .s 8 1 0 i 0, .s 4 1 0 n 0, .s 5 1 0 n 0, .s 6 1 0 n 0])), (8, some (.ar 1 i (numE fun i => i + 1)))])
    (fun i => i ≤ n) (fun i => n - i) 0 (Nat.zero_le _) ?_ fun i hi => ?_
  · conv => whnf
    refine Imp.trans (imp_ghost (GSpec.nilc 1 4 1 (numE fun i => i + 1) rfl rfl)) ?_
    (conv => whnf); (refine imp_auto hA ?_; conv => whnf); exact ⟨rfl, rfl, rfl, regs_a, has_a, rfl⟩
  · conv => whnf
    refine dsplit (fun h1 => ?_) (fun h1 => ?_)
    · replace h1 : (i : Int) < (n : Int) := h1
      conv => whnf
      (repeat' (first | (refine And.intro (by (first | omega | assumption | (simp only [nadd_eq]; omega) | (simp [nadd_eq]; omega))) ?_; conv => whnf) | (refine arI64 (by omega) (by omega) ?_; conv => whnf) | (refine arU32 (by omega) (by omega) ?_; conv => whnf) | (refine arU8 (by omega) (by omega) ?_; conv => whnf)))
      refine ⟨i + 1, by omega, by omega, ?_⟩
      (conv => whnf); (refine imp_auto hA ?_; conv => whnf); refine ⟨rfl, rfl, rfl, regs_a, ?_, rfl⟩
      exact ⟨rfl, ⟨rfl, rfl, fun j hj => snoc_rows (f := numE fun i => i + 1) (i := i) rfl j hj⟩, has_a⟩
    · replace h1 : ¬ (i : Int) < (n : Int) := h1
      obtain rfl : i = n := by omega
      conv => whnf
      (refine fin_close (H := (r15H i at_ (fun _ => 0) (fun _ => -1) h (fun _ => 0) (fun i => i + 1) (fun _ => 0) (fun _ => 0) fun _ => 0)) (np := 8) 1 0 (Nat.le_of_ble_eq_true rfl) ?_; conv => whnf); (refine ⟨⟨rfl, by omega, rfl, rfl, has_a, rfl⟩, ?_⟩)
      (refine fin_auto ?_; conv => whnf); exact ⟨rfl, rfl, rfl, rfl, has_a, rfl⟩
theorem r10W_spec (u : Int) : FSpec Try.prog 40 [] 0 [.l (.v (.int .u32 u))] fun x h k => x = .o (.l (.s 0 1 0 2 0)) ∧ k = 1 ∧ h = [(0, some (.ar 1 2 (wordE fun _ => u)))] := by
  refine spec_of_ev Try.func40 ic40_eq (rs := [.t 2]) (by kernel_rfl) (by kernel_rfl) (by kernel_rfl) fun G hP hA => ?_
  unfold evF ic40
  conv => whnf
  (refine fin_auto ?_; conv => whnf); refine ⟨rfl, rfl, rfl, ?_, ?_, rfl⟩
  · rfl
  · exact ⟨⟨rfl, rfl, fun i hi => by rcases (show i = 0 ∨ i = 1 by omega) with rfl | rfl <;> rfl⟩, trivial⟩
def r11W (u n : Nat) : Nat → Int
  | 0 => u
  | j + 1 => slotV u n j
theorem r11W_spec (u n : Nat) (hu : u < 4294967296) (hn : 1 ≤ n ∧ n ≤ 64) : FSpec Try.prog 42 [] 0 [.l (.v (.int .i64 n)), .l (.v (.int .u32 u))] fun x h k => x = .o (.l (.s 0 1 0 (n + 1) 0)) ∧ k = 1 ∧ h = [(0, some (.ar 1 (n + 1) (wordE (r11W u n))))] := by
  refine spec_of_ev Try.func42 ic42_eq (rs := [.t 4]) (by kernel_rfl) (by kernel_rfl) (by kernel_rfl) fun G hP hA => ?_
  unfold evF ic42
  conv => whnf
  refine loop_auto (α := Nat) (ds := [8, 9]) (N := 1) (fun i => [(6, sInt .i64 (i : Int)), (5, .o (.l (.s 0 1 0 (i + 1) 0)))]) [] (fun i => [(0, some (.ar 1 (i + 1) (wordE (r11W u n))))])
    (fun i => i ≤ n) (fun i => n - i) 0 (Nat.zero_le _) ?_ fun i hi => ?_
  · (conv => whnf); (refine imp_auto hA ?_; conv => whnf); refine ⟨rfl, rfl, rfl, regs_a, ?_, rfl⟩
    exact ⟨⟨rfl, rfl, fun j hj => by obtain rfl : j = 0 := by omega
                                     rfl⟩, trivial⟩
  · conv => whnf
    refine dsplit (fun h1 => ?_) (fun h1 => ?_)
    · replace h1 : (i : Int) < (n : Int) := h1
      conv => whnf
      (refine join_plain ?_; conv => whnf)
      refine arI64 (by omega) (by omega) ?_
      conv => whnf
      refine rem_nat (by omega) ?_
      conv => whnf
      refine dsplit (fun h2 => ?_) (fun h2 => ?_)
      · replace h2 : (i : Int) = ((u % n : Nat) : Int) := h2
        have hv : slotV u n i = 1 := if_pos (Int.ofNat_inj.1 h2)
        conv => whnf
        (repeat' (first | (refine And.intro (by (first | omega | assumption | (simp only [nadd_eq]; omega) | (simp [nadd_eq]; omega))) ?_; conv => whnf) | (refine arI64 (by omega) (by omega) ?_; conv => whnf) | (refine arU32 (by omega) (by omega) ?_; conv => whnf) | (refine arU8 (by omega) (by omega) ?_; conv => whnf)))
        refine ⟨i + 1, by omega, by omega, ?_⟩
        (conv => whnf); (refine imp_auto hA ?_; conv => whnf); refine ⟨rfl, rfl, rfl, regs_a, ?_, rfl⟩
        exact ⟨⟨rfl, rfl, fun j hj => snoc_rows (f := wordE (r11W u n)) (i := i + 1) (by show [Value.int .u32 1] = [Value.int .u32 (slotV u n i)]; rw [hv]) j hj⟩, trivial⟩
      · replace h2 : ¬ (i : Int) = ((u % n : Nat) : Int) := h2
        have hv : slotV u n i = 0 := if_neg (fun hh => h2 (congrArg Int.ofNat hh))
        conv => whnf
        (repeat' (first | (refine And.intro (by (first | omega | assumption | (simp only [nadd_eq]; omega) | (simp [nadd_eq]; omega))) ?_; conv => whnf) | (refine arI64 (by omega) (by omega) ?_; conv => whnf) | (refine arU32 (by omega) (by omega) ?_; conv => whnf) | (refine arU8 (by omega) (by omega) ?_; conv => whnf)))
        refine ⟨i + 1, by omega, by omega, ?_⟩
        (conv => whnf); (refine imp_auto hA ?_; conv => whnf); refine ⟨rfl, rfl, rfl, regs_a, ?_, rfl⟩
        exact ⟨⟨rfl, rfl, fun j hj => snoc_rows (f := wordE (r11W u n)) (i := i + 1) (by show [Value.int .u32 0] = [Value.int .u32 (slotV u n i)]; rw [hv]) j hj⟩, trivial⟩
    · replace h1 : ¬ (i : Int) < (n : Int) := h1
      obtain rfl : i = n := by omega
      conv => whnf
      (refine fin_auto ?_; conv => whnf); exact ⟨rfl, rfl, rfl, rfl, has_a, rfl⟩
theorem refWord_spec : FSpec Try.prog 71 [] 0 [.l (.v (.int .i64 1073741823)), .l (.v (.int .i64 0)), .l (.v (.int .i64 0))] fun x h k => x = sInt .u32 4294967292 ∧ k = 0 ∧ h = [] := by
  refine spec_of_ev Try.func71 ic71_eq (rs := [.t 6]) (by kernel_rfl) (by kernel_rfl) (by kernel_rfl) fun G hP hA => ?_
  unfold evF ic71
  conv => whnf
  (repeat' (first | (refine join_plain ?_; conv => whnf) | (refine dsplit (fun _ => ?_) (fun _ => ?_) <;> conv => whnf)))
  (repeat' (first | (refine And.intro (by (first | omega | assumption | (simp only [nadd_eq]; omega) | (simp [nadd_eq]; omega))) ?_; conv => whnf) | (refine arI64 (by omega) (by omega) ?_; conv => whnf) | (refine arU32 (by omega) (by omega) ?_; conv => whnf) | (refine arU8 (by omega) (by omega) ?_; conv => whnf)))
  (refine fin_auto ?_; conv => whnf); exact ⟨rfl, rfl, rfl, rfl, has_a, rfl⟩
def r15W (n : Nat) : Nat → Int := fun j => if j = n + 9 then 4294967292 else if j = 0 then (n : Int) + 1 else 0
theorem r15W_spec (n : Nat) (hn : 1 ≤ n ∧ n ≤ 64) : FSpec Try.prog 47 [] 0 [.l (.v (.int .i64 n))] fun x h k => x = .o (.l (.s 0 1 0 (n + 10) 0)) ∧ k = 1 ∧ h = [(0, some (.ar 1 (n + 10) (wordE (r15W n))))] := by
  have hw := refWord_spec
  refine spec_of_ev Try.func47 ic47_eq (rs := [.t 2]) (by kernel_rfl) (by kernel_rfl) (by kernel_rfl) fun G hP hA => ?_
  unfold evF ic47
  conv => whnf
  (repeat' (first | (refine And.intro (by (first | omega | assumption | (simp only [nadd_eq]; omega) | (simp [nadd_eq]; omega))) ?_; conv => whnf) | (refine arI64 (by omega) (by omega) ?_; conv => whnf) | (refine arU32 (by omega) (by omega) ?_; conv => whnf) | (refine arU8 (by omega) (by omega) ?_; conv => whnf)))
  (refine call_auto hP (hw) ?_; conv => whnf); (refine ⟨⟨rfl, rfl, rfl, has_a, rfl, rfl⟩, ?_⟩; conv => whnf)
  (repeat' (first | (refine And.intro (by (first | omega | assumption | (simp only [nadd_eq]; omega) | (simp [nadd_eq]; omega))) ?_; conv => whnf) | (refine arI64 (by omega) (by omega) ?_; conv => whnf) | (refine arU32 (by omega) (by omega) ?_; conv => whnf) | (refine arU8 (by omega) (by omega) ?_; conv => whnf)))
  (refine fin_auto ?_; conv => whnf); refine ⟨rfl, rfl, rfl, ?_, ?_, rfl⟩
  · rfl
  · refine ⟨⟨rfl, rfl, fun j hj => ?_⟩, trivial⟩
    show mrgL (j = nadd 0 ((n : Int) + 9).toNat) (setMany (mrgL (j = nadd 0 (0 : Int).toNat) (setMany [Value.int .u32 0] 0 [Value.int .u32 ((n : Int) + 1)]) [Value.int .u32 0]) 0 [Value.int .u32 4294967292]) (mrgL (j = nadd 0 (0 : Int).toNat) (setMany [Value.int .u32 0] 0 [Value.int .u32 ((n : Int) + 1)]) [Value.int .u32 0]) = [Value.int .u32 (r15W n j)]
    rw [show nadd 0 ((n : Int) + 9).toNat = n + 9 by simp [nadd_eq]; omega, show nadd 0 (0 : Int).toNat = 0 from rfl]
    by_cases e0 : j = 0
    · subst e0
      simp [mrgL, mrg_eq, setMany, setL, r15W]
    · by_cases e9 : j = n + 9
      · subst e9
        simp [mrgL, mrg_eq, setMany, setL, r15W]
      · simp [mrgL, mrg_eq, setMany, setL, r15W, e0, e9]
end Go.Proofs.Ytmccmanekbiadaa
set_option linter.unusedSimpArgs false
set_option linter.unusedVariables false
namespace Go.Proofs.Ytmccmanekbiadaa
open Go Go.Sx

theorem arI64_to {n m : Int} {K : Int → Prop} (e : n = m) (h0 : -9223372036854775808 ≤ m) (h1 : m ≤ 9223372036854775807) (hk : K m) : ArP .i64 n K := by subst e; exact arI64 h0 h1 hk
theorem hm_nilh {n : Nat} {ρ : Env} {φ : Nat → List Nat} {w : World} : HM [] (lt n) ρ φ w := ⟨fun k e h => (by cases h), fun k e h => (by cases h), fun k k' e e' h => (by cases h), fun k e h => (by cases h)⟩
theorem finP_raw {x : SV} {h : Heap} {n : Nat} {Q : SV → Heap → Nat → Prop} (hx : ∀ ρ : Env, ∃ x' : SV, (∀ ρ' : Env, x'.at ρ' = x.at ρ) ∧ (∀ (ρ' : Env) (D : Nat → Prop), x'.ok ρ' D) ∧ Q x' [] 0) : FinP 0 x h n Q := by
  refine ⟨fun ρ φ w hm hok => ?_⟩
  obtain ⟨x', h1, h2, h3⟩ := hx ρ
  exact ⟨x', [], 0, ρ, φ, (h1 ρ).symm, h3, Nat.le_refl 0, fun k hk => absurd hk (Nat.not_lt_zero k), hm_nilh, h2 _ _, fun k e hk => (by cases hk)⟩
theorem forget_own {h : Heap} {k : Nat} {cs cs' : List LV} (hk : hget h k = some (.st cs)) {j : Nat} {e : Ent} (hj : hget ((k, some (.st cs')) :: h) j = some e) : ∃ e', hget h j = some e' ∧ e'.own = e.own := by
  rw [hget_cons] at hj
  split at hj
  · rename_i hh; subst hh; cases hj; exact ⟨_, hk, rfl⟩
  · exact ⟨e, hj, rfl⟩
theorem hm_forget {h : Heap} {D : Nat → Prop} {ρ : Env} {φ : Nat → List Nat} {w : World} (g : HM h D ρ φ w) {k j : Nat} {cs : List LV} {y : LV} {v : Value} (hk : hget h k = some (.st cs)) (hj : nth cs j = some y) (hv : y.at ρ = v) : HM ((k, some (.st (setL cs j (.v v)))) :: h) D ρ φ w := by
  rw [nth_eq] at hj
  obtain ⟨e1, e2, e3, e4, e5⟩ := g.at_ k _ hk
  refine hm_put_st g hk ?_ fun z hz => ?_
  · rw [setL_eq, List.map_set]
    apply List.ext_getElem?
    intro i
    rw [List.getElem?_set]
    split
    · rename_i hij
      subst hij
      have hlt := (List.getElem?_eq_some_iff.1 hj).1
      rw [if_pos (by simpa using hlt), List.getElem?_map, hj]
      exact congrArg some hv.symm
    · rfl
  · rw [setL_eq] at hz
    rcases List.mem_or_eq_of_mem_set hz with hz | rfl
    · exact e5 z hz
    · trivial
theorem finP_forget {np : Nat} {x : SV} {h : Heap} {n : Nat} {Q : SV → Heap → Nat → Prop} (k j : Nat) {cs : List LV} {y : LV} (hk : hget h k = some (.st cs)) (hj : nth cs j = some y) (hf : ∀ v, FinP np x ((k, some (.st (setL cs j (.v v)))) :: h) n Q) : FinP np x h n Q := by
  refine ⟨fun ρ φ w hm hok => ?_⟩
  obtain ⟨x', h', n', ρ', φ', k1, hQ, k2, k3, k4, k5, k6⟩ := (hf (y.at ρ)).out ρ φ w (hm_forget hm hk hj rfl) hok
  refine ⟨x', h', n', ρ', φ', k1, hQ, k2, k3, k4, k5, fun k e hk' ho b hb => ?_⟩
  obtain ⟨k0, e0, q1, q2, q3⟩ := k6 k e hk' ho b hb
  obtain ⟨e1, r1, r2⟩ := forget_own hk q1
  exact ⟨k0, e1, r1, by rw [r2]; exact q2, q3⟩
def inC (kd n : Nat) (a b c : Option Addr) : SV := .t [.a [.v (.int .i64 kd), .v (.pointer a), .v (.pointer b), .v (.pointer c)], .l (.v (.int .i64 (inN kd n)))]
theorem rInner_spec (kd n : Nat) (at_ : Int) (hk : isIn kd) (hn : n ≤ 1000) : FSpec Try.prog 72 [] 0 [.l (.v (.int .i64 kd)), .l (.v (.int .i64 n)), .l (.v (.int .i64 at_))] fun x h k => (∃ a b c, x = inC kd n a b c) ∧ k = 0 ∧ h = [] := by
  have h10 := r10_spec n at_ hn
  have h12 := r12_spec n at_ hn
  have h13 := r13_spec n at_ hn
  refine spec_of_ev Try.func72 ic72_eq (rs := [.ca 6 4, .t 7]) (by kernel_rfl) (by kernel_rfl) (by kernel_rfl) fun G hP hA => ?_
  unfold evF ic72
  rcases hk with rfl | rfl | rfl
  · conv => whnf
    (refine call_auto hP (h10) ?_; conv => whnf); (refine ⟨⟨rfl, rfl, rfl, has_a, rfl, rfl⟩, ?_⟩; conv => whnf)
    refine finP_raw fun ρ => ⟨inC 1 n (some (adr (ρ 1) 0)) none none, fun _ => rfl, fun _ _ => ?_, ⟨_, _, _, rfl⟩, rfl, rfl⟩
    intro x hx
    simp only [List.mem_cons, List.not_mem_nil, or_false] at hx
    rcases hx with rfl | rfl
    · intro y hy
      simp only [List.mem_cons, List.not_mem_nil, or_false] at hy
      rcases hy with rfl | rfl | rfl | rfl <;> trivial
    · trivial
  · conv => whnf
    (refine call_auto hP (h12) ?_; conv => whnf); (refine ⟨⟨rfl, rfl, rfl, has_a, rfl, rfl⟩, ?_⟩; conv => whnf)
    refine arI64_to (m := ((inN 3 n : Nat) : Int)) (show (n : Int) + 2 = ((2 + n : Nat) : Int) by omega) (by omega) (show ((2 + n : Nat) : Int) ≤ 9223372036854775807 by omega) ?_
    conv => whnf
    refine finP_raw fun ρ => ⟨inC 3 n none (some (adr (ρ 1) 0)) none, fun _ => rfl, fun _ _ => ?_, ⟨_, _, _, rfl⟩, rfl, rfl⟩
    intro x hx
    simp only [List.mem_cons, List.not_mem_nil, or_false] at hx
    rcases hx with rfl | rfl
    · intro y hy
      simp only [List.mem_cons, List.not_mem_nil, or_false] at hy
      rcases hy with rfl | rfl | rfl | rfl <;> trivial
    · trivial
  · conv => whnf
    (refine call_auto hP (h13) ?_; conv => whnf); (refine ⟨⟨rfl, rfl, rfl, has_a, rfl, rfl⟩, ?_⟩; conv => whnf)
    refine arI64 (by omega) (by omega) ?_
    conv => whnf
    refine arI64_to (m := ((inN 4 n : Nat) : Int)) (show 2 * (n : Int) + 1 = ((1 + 2 * n : Nat) : Int) by omega) (by omega) (show ((1 + 2 * n : Nat) : Int) ≤ 9223372036854775807 by omega) ?_
    conv => whnf
    refine finP_raw fun ρ => ⟨inC 4 n none none (some (adr (ρ 1) 0)), fun _ => rfl, fun _ _ => ?_, ⟨_, _, _, rfl⟩, rfl, rfl⟩
    intro x hx
    simp only [List.mem_cons, List.not_mem_nil, or_false] at hx
    rcases hx with rfl | rfl
    · intro y hy
      simp only [List.mem_cons, List.not_mem_nil, or_false] at hy
      rcases hy with rfl | rfl | rfl | rfl <;> trivial
    · trivial
end Go.Proofs.Ytmccmanekbiadaa
set_option linter.unusedSimpArgs false
set_option linter.unusedVariables false
namespace Go.Proofs.Ytmccmanekbiadaa
open Go Go.Sx

theorem sat_forget {G : Ctx} {r : Regs} {h : Heap} {n : Nat} {act : Act} {w : World} {k j : Nat} {cs : List LV} {y : LV} (hs : Sat G r h n act w) (hk : hget h k = some (.st cs)) (hj : nth cs j = some y) : ∃ v, Sat G r ((k, some (.st (setL cs j (.v v)))) :: h) n act w := by
  obtain ⟨ρ, φ, gm, hr, hd⟩ := hs
  refine ⟨y.at ρ, ρ, φ, gm_of_hm gm (Nat.le_refl n) (fun _ _ => rfl) (hm_forget gm.hm hk hj rfl) (frm_refl w _) (fun j e hj' ho b hb => ?_) (fun j e hj' b hb => ?_), hr, hd⟩
  · obtain ⟨e1, r1, r2⟩ := forget_own hk hj'
    exact .inl ⟨j, e1, r1, by rw [r2]; exact ho, hb⟩
  · obtain ⟨e1, r1, r2⟩ := forget_own hk hj'
    exact .inl ⟨j, e1, r1, hb⟩
theorem rInner1_spec (n : Nat) (at_ : Int) (hn : n ≤ 1000) : FSpec Try.prog 72 [] 0 [.l (.v (.int .i64 1)), .l (.v (.int .i64 n)), .l (.v (.int .i64 at_))] fun x h k =>
    x = .t [.a [.v (.int .i64 1), .p 0 0 0 0, .v (.pointer none), .v (.pointer none)], .l (.v (.int .i64 ((inN 1 n : Nat) : Int)))] ∧ k = 1 ∧ h = [] := by
  have hh := r10_spec n at_ hn
  refine spec_of_ev Try.func72 ic72_eq (rs := [.ca 6 4, .t 7]) (by kernel_rfl) (by kernel_rfl) (by kernel_rfl) fun G hP hA => ?_
  unfold evF ic72
  conv => whnf
  (refine call_auto hP (hh) ?_; conv => whnf); (refine ⟨⟨rfl, rfl, rfl, has_a, rfl, rfl⟩, ?_⟩; conv => whnf)
  (refine fin_auto ?_; conv => whnf); exact ⟨rfl, rfl, rfl, rfl, has_a, rfl⟩
theorem rInner3_spec (n : Nat) (at_ : Int) (hn : n ≤ 1000) : FSpec Try.prog 72 [] 0 [.l (.v (.int .i64 3)), .l (.v (.int .i64 n)), .l (.v (.int .i64 at_))] fun x h k =>
    x = .t [.a [.v (.int .i64 3), .v (.pointer none), .p 0 0 0 0, .v (.pointer none)], .l (.v (.int .i64 ((inN 3 n : Nat) : Int)))] ∧ k = 1 ∧ h = [] := by
  have hh := r12_spec n at_ hn
  refine spec_of_ev Try.func72 ic72_eq (rs := [.ca 6 4, .t 7]) (by kernel_rfl) (by kernel_rfl) (by kernel_rfl) fun G hP hA => ?_
  unfold evF ic72
  conv => whnf
  (refine call_auto hP (hh) ?_; conv => whnf); (refine ⟨⟨rfl, rfl, rfl, has_a, rfl, rfl⟩, ?_⟩; conv => whnf)
  refine arI64_to (m := ((inN 3 n : Nat) : Int)) (show (n : Int) + 2 = ((2 + n : Nat) : Int) by omega) (by omega) (show ((2 + n : Nat) : Int) ≤ 9223372036854775807 by omega) ?_
  conv => whnf
  (refine fin_auto ?_; conv => whnf); exact ⟨rfl, rfl, rfl, rfl, has_a, rfl⟩
theorem rInner4_spec (n : Nat) (at_ : Int) (hn : n ≤ 1000) : FSpec Try.prog 72 [] 0 [.l (.v (.int .i64 4)), .l (.v (.int .i64 n)), .l (.v (.int .i64 at_))] fun x h k =>
    x = .t [.a [.v (.int .i64 4), .v (.pointer none), .v (.pointer none), .p 0 0 0 0], .l (.v (.int .i64 ((inN 4 n : Nat) : Int)))] ∧ k = 1 ∧ h = [] := by
  have hh := r13_spec n at_ hn
  refine spec_of_ev Try.func72 ic72_eq (rs := [.ca 6 4, .t 7]) (by kernel_rfl) (by kernel_rfl) (by kernel_rfl) fun G hP hA => ?_
  unfold evF ic72
  conv => whnf
  (refine call_auto hP (hh) ?_; conv => whnf); (refine ⟨⟨rfl, rfl, rfl, has_a, rfl, rfl⟩, ?_⟩; conv => whnf)
  refine arI64 (by omega) (by omega) ?_
  conv => whnf
  refine arI64_to (m := ((inN 4 n : Nat) : Int)) (show 2 * (n : Int) + 1 = ((1 + 2 * n : Nat) : Int) by omega) (by omega) (show ((1 + 2 * n : Nat) : Int) ≤ 9223372036854775807 by omega) ?_
  conv => whnf
  (refine fin_auto ?_; conv => whnf); exact ⟨rfl, rfl, rfl, rfl, has_a, rfl⟩
def ownI (h : Nat → Int) : Nat → Int := fun i => (cnt h i (h i).toNat : Int)
def r16C (V : Nat → Value) (sz : Int) : List LV := [.v (V 0), .v (V 1), .v (V 2), .v (V 3), .v (V 4), .v (V 5), .v (V 6), .v (V 7), .v (V 8), .v (V 9), .v (V 10), .v (V 11), .v (V 12), .v (V 13), .v (V 14), .v (V 15), .v (V 16), .v (V 17), .v (V 18), .v (V 19), .v (V 20), .v (V 21), .v (V 22), .v (V 23), .v (V 24), .v (V 25), .v (V 26), .v (V 27), .v (V 28), .v (V 29), .v (V 30), .v (V 31), .v (V 32), .v (V 33), .v (V 34), .v (V 35), .v (V 36), .v (V 37), .v (V 38), .v (V 39), .v (V 40), .v (V 41), .v (V 42), .v (.int .i64 sz)]
def V0 (j : Nat) : Value := if j % 4 = 0 then .int .i64 0 else .pointer none
set_option maxRecDepth 8000 in
set_option maxHeartbeats 8000000 in
theorem r16_spec (m : Nat) (h : Nat → Int) (g l : Nat) (bu : Int) (hm : 1 ≤ m ∧ m ≤ 64) (hb : anyZ badH h m = false) (hg : isIn g) (hl : isIn l) :
    FSpec Try.prog 48 [(0, some (.ro 1 m (numE h)))] 1 [.l (.s 0 1 0 m 0), .l (.v (.int .i64 g)), .l (.v (.int .i64 l)), .l (.v (.int .i64 bu)), .l (.v (.int .i64 0))] fun x h' k =>
      ∃ V, x = .o (.l (.p 1 0 0 0)) ∧ k = 2 ∧ h' = [(1, some (.st (r16C V (cohN m g l h : Int))))] := by
  have hse := rSeat_spec m false false (by omega)
  have hin0 := rInner_spec g 8 8 hg (by omega)
  have hsz : (m + 1) * 8 ≤ 140737488355328 := by omega
  refine spec_of_ev Try.func48 ic48_eq (rs := [.t 10]) (by kernel_rfl) (by kernel_rfl) (by kernel_rfl) fun G hP hA => ?_
  unfold evF ic48
  conv => whnf
  refine draw_to (ds := []) 5 [(12, .o (.l (.p 1 0 0 0)))] [] [(1, some (.st [.p 2 0 0 0, .v (.int .i64 0), .v (.int .i64 bu), .v (.int .i64 0), .v (.pointer none), .v (.pointer none), .v (.pointer none), .v (.int .i64 0), .v (.pointer none), .v (.pointer none), .v (.pointer none), .v (.int .i64 0), .v (.pointer none), .v (.pointer none), .v (.pointer none), .v (.int .i64 0), .v (.pointer none), .v (.pointer none), .v (.pointer none), .v (.int .i64 0), .v (.pointer none), .v (.pointer none), .v (.pointer none), .v (.int .i64 0), .v (.pointer none), .v (.pointer none), .v (.pointer none), .v (.int .i64 0), .v (.pointer none), .v (.pointer none), .v (.pointer none), .v (.int .i64 0), .v (.pointer none), .v (.pointer none), .v (.pointer none), .v (.int .i64 0), .v (.pointer none), .v (.pointer none), .v (.pointer none), .v (.slice none 0 0), .v (.slice none 0 0), .s 3 1 0 m 0, .s 4 1 0 m 0, .v (.int .i64 0)])), (2, some (rSeatP m (fun _ => 0) (fun _ => -1) false false)), (3, some (.ar 1 m (numE fun _ => 0))), (4, some (.ar 1 m (numE fun _ => 0)))] ?_ ?_
  · conv => whnf
    (refine drawP_lazy (by rw [hP]; exact follows) 60 (by kernel_rfl) ?_; conv => whnf)
    repeat' (first | (refine And.intro (by first | omega | decide | (simp [nadd_eq]; omega)) ?_; conv => whnf) | (refine arI64 (by omega) (by omega) ?_; conv => whnf) | (refine And.intro ?_ ?_ <;> (conv => whnf)))
    all_goals (refine callD_auto hP (hse) ?_; conv => whnf); (refine ⟨⟨rfl, rfl, rfl, has_a, rfl, rfl⟩, ?_⟩; conv => whnf)
    repeat' (first | (refine And.intro (by first | omega | decide | (simp [nadd_eq]; omega)) ?_; conv => whnf) | (refine arI64 (by omega) (by omega) ?_; conv => whnf) | (refine And.intro ?_ ?_ <;> (conv => whnf)))
    all_goals (conv => whnf); (refine imp_auto hA ?_; conv => whnf); exact ⟨rfl, rfl, rfl, regs_a, has_a, rfl⟩
  conv => whnf
  refine loop_auto (α := Nat × (Nat → Nat)) (ds := []) (N := 8) (fun x => [(32, sInt .i64 (x.1 : Int))]) []
    (fun x => [(1, some (.st [.p 2 0 0 0, .v (.int .i64 0), .v (.int .i64 bu), .v (.int .i64 0), .v (.pointer none), .v (.pointer none), .v (.pointer none), .v (.int .i64 0), .v (.pointer none), .v (.pointer none), .v (.pointer none), .v (.int .i64 0), .v (.pointer none), .v (.pointer none), .v (.pointer none), .v (.int .i64 0), .v (.pointer none), .v (.pointer none), .v (.pointer none), .v (.int .i64 0), .v (.pointer none), .v (.pointer none), .v (.pointer none), .v (.int .i64 0), .v (.pointer none), .v (.pointer none), .v (.pointer none), .v (.int .i64 0), .v (.pointer none), .v (.pointer none), .v (.pointer none), .v (.int .i64 0), .v (.pointer none), .v (.pointer none), .v (.pointer none), .v (.int .i64 0), .v (.pointer none), .v (.pointer none), .v (.pointer none), .s 6 1 0 x.1 0, .s 7 1 0 x.1 0, .s 3 1 0 m 0, .s 4 1 0 m 0, .v (.int .i64 0)])), (5, some (.st [.v (.int .i64 (x.2 0 : Int)), .v (.int .i64 (x.2 1 : Int)), .v (.int .i64 (x.2 2 : Int)), .v (.int .i64 (x.2 3 : Int)), .v (.int .i64 (x.2 4 : Int)), .v (.int .i64 (x.2 5 : Int)), .v (.int .i64 (x.2 6 : Int)), .v (.int .i64 (x.2 7 : Int))])), (6, some (.ar 1 x.1 (numE h))), (7, some (.ar 1 x.1 (numE (ownI h))))])
    (fun x => x.1 ≤ m ∧ ∀ j, x.2 j = cnt h x.1 j) (fun x => m - x.1) (0, fun _ => 0) ⟨Nat.zero_le _, fun _ => rfl⟩ ?_ fun x hx => ?_
  · conv => whnf
    refine Imp.trans (imp_ghost ((GSpec.nilc 1 39 1 (numE h) rfl rfl).trans (GSpec.nilc 1 40 1 (numE (ownI h)) rfl rfl))) ?_
    (conv => whnf); (refine imp_auto hA ?_; conv => whnf); exact ⟨rfl, rfl, rfl, regs_a, has_a, rfl⟩
  · obtain ⟨i, cn⟩ := x
    obtain ⟨hi, hcn⟩ := hx
    replace hi : i ≤ m := hi
    replace hcn : ∀ j, cn j = cnt h i j := hcn
    conv => whnf
    refine dsplit (fun h1 => ?_) (fun h1 => ?_)
    · replace h1 : (i : Int) < (m : Int) := h1
      have hbi : badH (h i) = false := anyZ_false.1 hb i (by omega)
      have hr : 0 ≤ h i ∧ h i < 8 := by unfold badH at hbi; simp at hbi; omega
      have hni : nadd 0 ((i : Nat) : Int).toNat = i := by simp [nadd_eq]
      have hcl : ∀ c, cn c ≤ 64 := fun c => by have := cnt_le h i c; rw [hcn c]; omega
      have hsz : (i + 1) * 8 ≤ 140737488355328 := by omega
      rcases (show h i = 0 ∨ h i = 1 ∨ h i = 2 ∨ h i = 3 ∨ h i = 4 ∨ h i = 5 ∨ h i = 6 ∨ h i = 7 by omega) with hc | hc | hc | hc | hc | hc | hc | hc
      · conv => whnf
        (repeat' (first | (refine And.intro (by (first | omega | assumption | (simp only [nadd_eq]; omega) | (simp [nadd_eq]; omega))) ?_; conv => whnf) | (refine arI64 (by omega) (by omega) ?_; conv => whnf) | (refine arU32 (by omega) (by omega) ?_; conv => whnf) | (refine arU8 (by omega) (by omega) ?_; conv => whnf)))
        rw [hni, hc]
        conv => whnf
        (repeat' (first | (refine And.intro (by first | omega | exact ⟨rfl, Nat.le_of_ble_eq_true rfl, hsz⟩) ?_; conv => whnf) | (refine arI64 (by omega) (by omega) ?_; conv => whnf)))
        (refine drawP_lazy (by rw [hP]; exact follows) 60 (by kernel_rfl) ?_; conv => whnf)
        repeat' (first | (refine And.intro (by first | omega | decide | exact ⟨rfl, Nat.le_of_ble_eq_true rfl, hsz⟩ | (simp [nadd_eq]; omega)) ?_; conv => whnf) | (refine And.intro ?_ ?_ <;> (conv => whnf)))
        all_goals
          (repeat' (first | (refine And.intro (by first | omega | exact ⟨rfl, Nat.le_of_ble_eq_true rfl, hsz⟩) ?_; conv => whnf) | (refine arI64 (by have := hcl 0; show _ ≤ ((cn 0 : Nat) : Int) + 1; omega) (by have := hcl 0; show ((cn 0 : Nat) : Int) + 1 ≤ _; omega) ?_; conv => whnf) | (refine arI64 (by omega) (by omega) ?_; conv => whnf)))
          refine ⟨(i + 1, fun j => if j = 0 then cn j + 1 else cn j), ⟨show i + 1 ≤ m by omega, fun j => cnt_step (c := 0) hc hcn j⟩, show m - (i + 1) < m - i by omega, ?_⟩
          (conv => whnf); (refine imp_auto hA ?_; conv => whnf); refine ⟨rfl, rfl, rfl, regs_a, ?_, rfl⟩
          exact ⟨rfl, rfl, ⟨rfl, rfl, fun j hj => snoc_rows (f := numE h) (i := i) (by show [Value.int .i64 0] = [Value.int .i64 (h i)]; rw [hc]) j hj⟩, ⟨rfl, rfl, fun j hj => snoc_rows (f := numE (ownI h)) (i := i) (by show [Value.int .i64 ((cn 0 : Nat) : Int)] = [Value.int .i64 ((cnt h i (h i).toNat : Nat) : Int)]; rw [hc, hcn]; rfl) j hj⟩, has_a⟩
      · conv => whnf
        (repeat' (first | (refine And.intro (by (first | omega | assumption | (simp only [nadd_eq]; omega) | (simp [nadd_eq]; omega))) ?_; conv => whnf) | (refine arI64 (by omega) (by omega) ?_; conv => whnf) | (refine arU32 (by omega) (by omega) ?_; conv => whnf) | (refine arU8 (by omega) (by omega) ?_; conv => whnf)))
        rw [hni, hc]
        conv => whnf
        (repeat' (first | (refine And.intro (by first | omega | exact ⟨rfl, Nat.le_of_ble_eq_true rfl, hsz⟩) ?_; conv => whnf) | (refine arI64 (by omega) (by omega) ?_; conv => whnf)))
        (refine drawP_lazy (by rw [hP]; exact follows) 60 (by kernel_rfl) ?_; conv => whnf)
        repeat' (first | (refine And.intro (by first | omega | decide | exact ⟨rfl, Nat.le_of_ble_eq_true rfl, hsz⟩ | (simp [nadd_eq]; omega)) ?_; conv => whnf) | (refine And.intro ?_ ?_ <;> (conv => whnf)))
        all_goals
          (repeat' (first | (refine And.intro (by first | omega | exact ⟨rfl, Nat.le_of_ble_eq_true rfl, hsz⟩) ?_; conv => whnf) | (refine arI64 (by have := hcl 1; show _ ≤ ((cn 1 : Nat) : Int) + 1; omega) (by have := hcl 1; show ((cn 1 : Nat) : Int) + 1 ≤ _; omega) ?_; conv => whnf) | (refine arI64 (by omega) (by omega) ?_; conv => whnf)))
          refine ⟨(i + 1, fun j => if j = 1 then cn j + 1 else cn j), ⟨show i + 1 ≤ m by omega, fun j => cnt_step (c := 1) hc hcn j⟩, show m - (i + 1) < m - i by omega, ?_⟩
          (conv => whnf); (refine imp_auto hA ?_; conv => whnf); refine ⟨rfl, rfl, rfl, regs_a, ?_, rfl⟩
          exact ⟨rfl, rfl, ⟨rfl, rfl, fun j hj => snoc_rows (f := numE h) (i := i) (by show [Value.int .i64 1] = [Value.int .i64 (h i)]; rw [hc]) j hj⟩, ⟨rfl, rfl, fun j hj => snoc_rows (f := numE (ownI h)) (i := i) (by show [Value.int .i64 ((cn 1 : Nat) : Int)] = [Value.int .i64 ((cnt h i (h i).toNat : Nat) : Int)]; rw [hc, hcn]; rfl) j hj⟩, has_a⟩
      · conv => whnf
        (repeat' (first | (refine And.intro (by (first | omega | assumption | (simp only [nadd_eq]; omega) | (simp [nadd_eq]; omega))) ?_; conv => whnf) | (refine arI64 (by omega) (by omega) ?_; conv => whnf) | (refine arU32 (by omega) (by omega) ?_; conv => whnf) | (refine arU8 (by omega) (by omega) ?_; conv => whnf)))
        rw [hni, hc]
        conv => whnf
        (repeat' (first | (refine And.intro (by first | omega | exact ⟨rfl, Nat.le_of_ble_eq_true rfl, hsz⟩) ?_; conv => whnf) | (refine arI64 (by omega) (by omega) ?_; conv => whnf)))
        (refine drawP_lazy (by rw [hP]; exact follows) 60 (by kernel_rfl) ?_; conv => whnf)
        repeat' (first | (refine And.intro (by first | omega | decide | exact ⟨rfl, Nat.le_of_ble_eq_true rfl, hsz⟩ | (simp [nadd_eq]; omega)) ?_; conv => whnf) | (refine And.intro ?_ ?_ <;> (conv => whnf)))
        all_goals
          (repeat' (first | (refine And.intro (by first | omega | exact ⟨rfl, Nat.le_of_ble_eq_true rfl, hsz⟩) ?_; conv => whnf) | (refine arI64 (by have := hcl 2; show _ ≤ ((cn 2 : Nat) : Int) + 1; omega) (by have := hcl 2; show ((cn 2 : Nat) : Int) + 1 ≤ _; omega) ?_; conv => whnf) | (refine arI64 (by omega) (by omega) ?_; conv => whnf)))
          refine ⟨(i + 1, fun j => if j = 2 then cn j + 1 else cn j), ⟨show i + 1 ≤ m by omega, fun j => cnt_step (c := 2) hc hcn j⟩, show m - (i + 1) < m - i by omega, ?_⟩
          (conv => whnf); (refine imp_auto hA ?_; conv => whnf); refine ⟨rfl, rfl, rfl, regs_a, ?_, rfl⟩
          exact ⟨rfl, rfl, ⟨rfl, rfl, fun j hj => snoc_rows (f := numE h) (i := i) (by show [Value.int .i64 2] = [Value.int .i64 (h i)]; rw [hc]) j hj⟩, ⟨rfl, rfl, fun j hj => snoc_rows (f := numE (ownI h)) (i := i) (by show [Value.int .i64 ((cn 2 : Nat) : Int)] = [Value.int .i64 ((cnt h i (h i).toNat : Nat) : Int)]; rw [hc, hcn]; rfl) j hj⟩, has_a⟩
      · conv => whnf
        (repeat' (first | (refine And.intro (by (first | omega | assumption | (simp only [nadd_eq]; omega) | (simp [nadd_eq]; omega))) ?_; conv => whnf) | (refine arI64 (by omega) (by omega) ?_; conv => whnf) | (refine arU32 (by omega) (by omega) ?_; conv => whnf) | (refine arU8 (by omega) (by omega) ?_; conv => whnf)))
        rw [hni, hc]
        conv => whnf
        (repeat' (first | (refine And.intro (by first | omega | exact ⟨rfl, Nat.le_of_ble_eq_true rfl, hsz⟩) ?_; conv => whnf) | (refine arI64 (by omega) (by omega) ?_; conv => whnf)))
        (refine drawP_lazy (by rw [hP]; exact follows) 60 (by kernel_rfl) ?_; conv => whnf)
        repeat' (first | (refine And.intro (by first | omega | decide | exact ⟨rfl, Nat.le_of_ble_eq_true rfl, hsz⟩ | (simp [nadd_eq]; omega)) ?_; conv => whnf) | (refine And.intro ?_ ?_ <;> (conv => whnf)))
        all_goals
          (repeat' (first | (refine And.intro (by first | omega | exact ⟨rfl, Nat.le_of_ble_eq_true rfl, hsz⟩) ?_; conv => whnf) | (refine arI64 (by have := hcl 3; show _ ≤ ((cn 3 : Nat) : Int) + 1; omega) (by have := hcl 3; show ((cn 3 : Nat) : Int) + 1 ≤ _; omega) ?_; conv => whnf) | (refine arI64 (by omega) (by omega) ?_; conv => whnf)))
          refine ⟨(i + 1, fun j => if j = 3 then cn j + 1 else cn j), ⟨show i + 1 ≤ m by omega, fun j => cnt_step (c := 3) hc hcn j⟩, show m - (i + 1) < m - i by omega, ?_⟩
          (conv => whnf); (refine imp_auto hA ?_; conv => whnf); refine ⟨rfl, rfl, rfl, regs_a, ?_, rfl⟩
          exact ⟨rfl, rfl, ⟨rfl, rfl, fun j hj => snoc_rows (f := numE h) (i := i) (by show [Value.int .i64 3] = [Value.int .i64 (h i)]; rw [hc]) j hj⟩, ⟨rfl, rfl, fun j hj => snoc_rows (f := numE (ownI h)) (i := i) (by show [Value.int .i64 ((cn 3 : Nat) : Int)] = [Value.int .i64 ((cnt h i (h i).toNat : Nat) : Int)]; rw [hc, hcn]; rfl) j hj⟩, has_a⟩
      · conv => whnf
        (repeat' (first | (refine And.intro (by (first | omega | assumption | (simp only [nadd_eq]; omega) | (simp [nadd_eq]; omega))) ?_; conv => whnf) | (refine arI64 (by omega) (by omega) ?_; conv => whnf) | (refine arU32 (by omega) (by omega) ?_; conv => whnf) | (refine arU8 (by omega) (by omega) ?_; conv => whnf)))
        rw [hni, hc]
        conv => whnf
        (repeat' (first | (refine And.intro (by first | omega | exact ⟨rfl, Nat.le_of_ble_eq_true rfl, hsz⟩) ?_; conv => whnf) | (refine arI64 (by omega) (by omega) ?_; conv => whnf)))
        (refine drawP_lazy (by rw [hP]; exact follows) 60 (by kernel_rfl) ?_; conv => whnf)
        repeat' (first | (refine And.intro (by first | omega | decide | exact ⟨rfl, Nat.le_of_ble_eq_true rfl, hsz⟩ | (simp [nadd_eq]; omega)) ?_; conv => whnf) | (refine And.intro ?_ ?_ <;> (conv => whnf)))
        all_goals
          (repeat' (first | (refine And.intro (by first | omega | exact ⟨rfl, Nat.le_of_ble_eq_true rfl, hsz⟩) ?_; conv => whnf) | (refine arI64 (by have := hcl 4; show _ ≤ ((cn 4 : Nat) : Int) + 1; omega) (by have := hcl 4; show ((cn 4 : Nat) : Int) + 1 ≤ _; omega) ?_; conv => whnf) | (refine arI64 (by omega) (by omega) ?_; conv => whnf)))
          refine ⟨(i + 1, fun j => if j = 4 then cn j + 1 else cn j), ⟨show i + 1 ≤ m by omega, fun j => cnt_step (c := 4) hc hcn j⟩, show m - (i + 1) < m - i by omega, ?_⟩
          (conv => whnf); (refine imp_auto hA ?_; conv => whnf); refine ⟨rfl, rfl, rfl, regs_a, ?_, rfl⟩
          exact ⟨rfl, rfl, ⟨rfl, rfl, fun j hj => snoc_rows (f := numE h) (i := i) (by show [Value.int .i64 4] = [Value.int .i64 (h i)]; rw [hc]) j hj⟩, ⟨rfl, rfl, fun j hj => snoc_rows (f := numE (ownI h)) (i := i) (by show [Value.int .i64 ((cn 4 : Nat) : Int)] = [Value.int .i64 ((cnt h i (h i).toNat : Nat) : Int)]; rw [hc, hcn]; rfl) j hj⟩, has_a⟩
      · conv => whnf
        (repeat' (first | (refine And.intro (by (first | omega | assumption | (simp only [nadd_eq]; omega) | (simp [nadd_eq]; omega))) ?_; conv => whnf) | (refine arI64 (by omega) (by omega) ?_; conv => whnf) | (refine arU32 (by omega) (by omega) ?_; conv => whnf) | (refine arU8 (by omega) (by omega) ?_; conv => whnf)))
        rw [hni, hc]
        conv => whnf
        (repeat' (first | (refine And.intro (by first | omega | exact ⟨rfl, Nat.le_of_ble_eq_true rfl, hsz⟩) ?_; conv => whnf) | (refine arI64 (by omega) (by omega) ?_; conv => whnf)))
        (refine drawP_lazy (by rw [hP]; exact follows) 60 (by kernel_rfl) ?_; conv => whnf)
        repeat' (first | (refine And.intro (by first | omega | decide | exact ⟨rfl, Nat.le_of_ble_eq_true rfl, hsz⟩ | (simp [nadd_eq]; omega)) ?_; conv => whnf) | (refine And.intro ?_ ?_ <;> (conv => whnf)))
        all_goals
          (repeat' (first | (refine And.intro (by first | omega | exact ⟨rfl, Nat.le_of_ble_eq_true rfl, hsz⟩) ?_; conv => whnf) | (refine arI64 (by have := hcl 5; show _ ≤ ((cn 5 : Nat) : Int) + 1; omega) (by have := hcl 5; show ((cn 5 : Nat) : Int) + 1 ≤ _; omega) ?_; conv => whnf) | (refine arI64 (by omega) (by omega) ?_; conv => whnf)))
          refine ⟨(i + 1, fun j => if j = 5 then cn j + 1 else cn j), ⟨show i + 1 ≤ m by omega, fun j => cnt_step (c := 5) hc hcn j⟩, show m - (i + 1) < m - i by omega, ?_⟩
          (conv => whnf); (refine imp_auto hA ?_; conv => whnf); refine ⟨rfl, rfl, rfl, regs_a, ?_, rfl⟩
          exact ⟨rfl, rfl, ⟨rfl, rfl, fun j hj => snoc_rows (f := numE h) (i := i) (by show [Value.int .i64 5] = [Value.int .i64 (h i)]; rw [hc]) j hj⟩, ⟨rfl, rfl, fun j hj => snoc_rows (f := numE (ownI h)) (i := i) (by show [Value.int .i64 ((cn 5 : Nat) : Int)] = [Value.int .i64 ((cnt h i (h i).toNat : Nat) : Int)]; rw [hc, hcn]; rfl) j hj⟩, has_a⟩
      · conv => whnf
        (repeat' (first | (refine And.intro (by (first | omega | assumption | (simp only [nadd_eq]; omega) | (simp [nadd_eq]; omega))) ?_; conv => whnf) | (refine arI64 (by omega) (by omega) ?_; conv => whnf) | (refine arU32 (by omega) (by omega) ?_; conv => whnf) | (refine arU8 (by omega) (by omega) ?_; conv => whnf)))
        rw [hni, hc]
        conv => whnf
        (repeat' (first | (refine And.intro (by first | omega | exact ⟨rfl, Nat.le_of_ble_eq_true rfl, hsz⟩) ?_; conv => whnf) | (refine arI64 (by omega) (by omega) ?_; conv => whnf)))
        (refine drawP_lazy (by rw [hP]; exact follows) 60 (by kernel_rfl) ?_; conv => whnf)
        repeat' (first | (refine And.intro (by first | omega | decide | exact ⟨rfl, Nat.le_of_ble_eq_true rfl, hsz⟩ | (simp [nadd_eq]; omega)) ?_; conv => whnf) | (refine And.intro ?_ ?_ <;> (conv => whnf)))
        all_goals
          (repeat' (first | (refine And.intro (by first | omega | exact ⟨rfl, Nat.le_of_ble_eq_true rfl, hsz⟩) ?_; conv => whnf) | (refine arI64 (by have := hcl 6; show _ ≤ ((cn 6 : Nat) : Int) + 1; omega) (by have := hcl 6; show ((cn 6 : Nat) : Int) + 1 ≤ _; omega) ?_; conv => whnf) | (refine arI64 (by omega) (by omega) ?_; conv => whnf)))
          refine ⟨(i + 1, fun j => if j = 6 then cn j + 1 else cn j), ⟨show i + 1 ≤ m by omega, fun j => cnt_step (c := 6) hc hcn j⟩, show m - (i + 1) < m - i by omega, ?_⟩
          (conv => whnf); (refine imp_auto hA ?_; conv => whnf); refine ⟨rfl, rfl, rfl, regs_a, ?_, rfl⟩
          exact ⟨rfl, rfl, ⟨rfl, rfl, fun j hj => snoc_rows (f := numE h) (i := i) (by show [Value.int .i64 6] = [Value.int .i64 (h i)]; rw [hc]) j hj⟩, ⟨rfl, rfl, fun j hj => snoc_rows (f := numE (ownI h)) (i := i) (by show [Value.int .i64 ((cn 6 : Nat) : Int)] = [Value.int .i64 ((cnt h i (h i).toNat : Nat) : Int)]; rw [hc, hcn]; rfl) j hj⟩, has_a⟩
      · conv => whnf
        (repeat' (first | (refine And.intro (by (first | omega | assumption | (simp only [nadd_eq]; omega) | (simp [nadd_eq]; omega))) ?_; conv => whnf) | (refine arI64 (by omega) (by omega) ?_; conv => whnf) | (refine arU32 (by omega) (by omega) ?_; conv => whnf) | (refine arU8 (by omega) (by omega) ?_; conv => whnf)))
        rw [hni, hc]
        conv => whnf
        (repeat' (first | (refine And.intro (by first | omega | exact ⟨rfl, Nat.le_of_ble_eq_true rfl, hsz⟩) ?_; conv => whnf) | (refine arI64 (by omega) (by omega) ?_; conv => whnf)))
        (refine drawP_lazy (by rw [hP]; exact follows) 60 (by kernel_rfl) ?_; conv => whnf)
        repeat' (first | (refine And.intro (by first | omega | decide | exact ⟨rfl, Nat.le_of_ble_eq_true rfl, hsz⟩ | (simp [nadd_eq]; omega)) ?_; conv => whnf) | (refine And.intro ?_ ?_ <;> (conv => whnf)))
        all_goals
          (repeat' (first | (refine And.intro (by first | omega | exact ⟨rfl, Nat.le_of_ble_eq_true rfl, hsz⟩) ?_; conv => whnf) | (refine arI64 (by have := hcl 7; show _ ≤ ((cn 7 : Nat) : Int) + 1; omega) (by have := hcl 7; show ((cn 7 : Nat) : Int) + 1 ≤ _; omega) ?_; conv => whnf) | (refine arI64 (by omega) (by omega) ?_; conv => whnf)))
          refine ⟨(i + 1, fun j => if j = 7 then cn j + 1 else cn j), ⟨show i + 1 ≤ m by omega, fun j => cnt_step (c := 7) hc hcn j⟩, show m - (i + 1) < m - i by omega, ?_⟩
          (conv => whnf); (refine imp_auto hA ?_; conv => whnf); refine ⟨rfl, rfl, rfl, regs_a, ?_, rfl⟩
          exact ⟨rfl, rfl, ⟨rfl, rfl, fun j hj => snoc_rows (f := numE h) (i := i) (by show [Value.int .i64 7] = [Value.int .i64 (h i)]; rw [hc]) j hj⟩, ⟨rfl, rfl, fun j hj => snoc_rows (f := numE (ownI h)) (i := i) (by show [Value.int .i64 ((cn 7 : Nat) : Int)] = [Value.int .i64 ((cnt h i (h i).toNat : Nat) : Int)]; rw [hc, hcn]; rfl) j hj⟩, has_a⟩
    · replace h1 : ¬ (i : Int) < (m : Int) := h1
      obtain rfl : m = i := by omega
      have hcn64 : ∀ j, cn j ≤ 64 := fun j => by rw [hcn j]; exact Nat.le_trans (cnt_le h m j) hm.2
      obtain rfl : cn = cnt h m := funext hcn
      have hN : (l3 l (cnt h m) (p0F 0 g (fun _ => 0) fun _ => 0) 8).1 = cohN m g l h := rfl
      have e1 : (p0F 0 g (fun _ => 0) fun _ => 0).1 = 0 + 8 + inN g 8 := rfl
      generalize p0F 0 g (fun _ => 0) (fun _ => 0) = p0 at *
      generalize cnt h m = cn at *
      have hg8 := inN_le g 8
      conv => whnf
      refine arI64 (by omega) (by omega) ?_
      conv => whnf
      rw [← hP] at hin0
      refine callP_spec hin0 [] rfl rfl rfl trivial rfl fun x h' k hq => ?_
      obtain ⟨⟨pa, pb, pc, rfl⟩, rfl, rfl⟩ := hq
      refine ⟨rfl, ?_⟩
      conv => whnf
      refine arI64_to (m := (((l3 l cn p0 0).1 : Nat) : Int)) (show (0 + 8 : Int) + ((inN g 8 : Nat) : Int) = ((p0.1 : Nat) : Int) by rw [e1]; omega) (by omega) (show ((p0.1 : Nat) : Int) ≤ 9223372036854775807 by omega) ?_
      conv => whnf
      rcases hl with rfl | rfl | rfl
      · refine loop_ex (α := Nat × (Nat → Value)) (ds := []) (N := 8) (fun x => [(17, sInt .i64 (x.1 : Int)), (4, sInt .i64 ((l3 1 cn p0 x.1).1 : Int))]) []
          (fun x => [(1, some (.st [.p 2 0 0 0, .v (.int .i64 0), .v (.int .i64 bu), .v (.int .i64 g), .v (.pointer pa), .v (.pointer pb), .v (.pointer pc), .v (x.2 0), .v (x.2 1), .v (x.2 2), .v (x.2 3), .v (x.2 4), .v (x.2 5), .v (x.2 6), .v (x.2 7), .v (x.2 8), .v (x.2 9), .v (x.2 10), .v (x.2 11), .v (x.2 12), .v (x.2 13), .v (x.2 14), .v (x.2 15), .v (x.2 16), .v (x.2 17), .v (x.2 18), .v (x.2 19), .v (x.2 20), .v (x.2 21), .v (x.2 22), .v (x.2 23), .v (x.2 24), .v (x.2 25), .v (x.2 26), .v (x.2 27), .v (x.2 28), .v (x.2 29), .v (x.2 30), .v (x.2 31), .s 6 1 0 m 0, .s 7 1 0 m 0, .s 3 1 0 m 0, .s 4 1 0 m 0, .v (.int .i64 0)]))])
          (fun x => x.1 ≤ 8) (fun x => 8 - x.1) (0, V0) (Nat.zero_le _) ?_ fun x hx => ?_
        · conv => whnf
          refine imp_intro hA [0, 1, 2, 3, 4, 5, 6, 7] rfl rfl rfl regs_a ?_ rfl
          exact has_a
        obtain ⟨c, V⟩ := x
        replace hx : c ≤ 8 := hx
        rcases (show c = 0 ∨ c = 1 ∨ c = 2 ∨ c = 3 ∨ c = 4 ∨ c = 5 ∨ c = 6 ∨ c = 7 ∨ c = 8 by omega) with rfl | rfl | rfl | rfl | rfl | rfl | rfl | rfl | rfl
        · have hin := rInner1_spec (cn 0) ((l3 1 cn p0 0).1 : Int) (by have := hcn64 0; omega)
          have hMc := l3_le (l := 1) (p0 := p0) hcn64 0
          have hMd := l3_le (l := 1) (p0 := p0) hcn64 1
          cases hb : Nat.blt 0 (cn 0) with
          | true =>
            have hb1 : 0 < cn 0 := Nat.le_of_ble_eq_true hb
            have hs3 := l3_yes (l := 1) (p0 := p0) hb
            have hs4 : (l3 1 cn p0 1).1 = (l3 1 cn p0 0).1 + inN 1 (cn 0) := by rw [hs3]
            conv => whnf
            (refine join_plain ?_; conv => whnf)
            (repeat' (first | (refine And.intro (by (first | omega | assumption | (simp only [nadd_eq]; omega) | (simp [nadd_eq]; omega))) ?_; conv => whnf) | (refine arI64 (by omega) (by omega) ?_; conv => whnf) | (refine arU32 (by omega) (by omega) ?_; conv => whnf) | (refine arU8 (by omega) (by omega) ?_; conv => whnf)))
            refine dsplit (fun h1 => ?_) (fun h1 => absurd (show (0 : Int) < ((cn 0 : Nat) : Int) by omega) h1)
            conv => whnf
            (refine drawP_lazy (by rw [hP]; exact follows) 60 (by kernel_rfl) ?_; conv => whnf)
            repeat' (first | (refine And.intro (by first | omega | decide | (simp [nadd_eq]; omega)) ?_; conv => whnf) | (refine arI64 (by omega) (by omega) ?_; conv => whnf) | (refine And.intro ?_ ?_ <;> (conv => whnf)))
            all_goals (refine callD_auto hP (hin) ?_; conv => whnf); (refine ⟨⟨rfl, rfl, rfl, has_a, rfl, rfl⟩, ?_⟩; conv => whnf)
            repeat' (first | (refine And.intro (by first | omega | decide | (simp [nadd_eq]; omega)) ?_; conv => whnf) | (refine arI64 (by omega) (by omega) ?_; conv => whnf) | (refine And.intro ?_ ?_ <;> (conv => whnf)))
            all_goals
              refine arI64_to (m := (((l3 1 cn p0 1).1 : Nat) : Int)) (show (((l3 1 cn p0 0).1 : Nat) : Int) + ((inN 1 (cn 0) : Nat) : Int) = _ by rw [hs4]; omega) (by omega) (by omega) ?_
              conv => whnf
              refine arI64 (by omega) (by omega) ?_
              conv => whnf
              intro act aw hs
              obtain ⟨v, hs⟩ := sat_forget (k := 1) (j := 8) hs rfl rfl
              refine ⟨(1, fun j => if j = 0 then .int .i64 1 else if j = 1 then v else if j = 1 then .pointer none else if j = 2 then .pointer none else if j = 3 then .pointer none else V j), show 1 ≤ 8 by omega, show 8 - 1 < 8 - 0 by omega, ?_⟩
              conv => whnf
              refine satP_imp hs ?_
              refine imp_intro hA [0, 1, 2, 3, 4, 5, 6, 7] rfl rfl rfl regs_a ?_ rfl
              exact has_a
          | false =>
            have hb1 : ¬ 0 < cn 0 := fun hh => by have h2 : Nat.blt 0 (cn 0) = true := Nat.ble_eq_true_of_le hh; rw [h2] at hb; cases hb
            have hs3 := l3_no (l := 1) (p0 := p0) hb
            conv => whnf
            (refine join_plain ?_; conv => whnf)
            (repeat' (first | (refine And.intro (by (first | omega | assumption | (simp only [nadd_eq]; omega) | (simp [nadd_eq]; omega))) ?_; conv => whnf) | (refine arI64 (by omega) (by omega) ?_; conv => whnf) | (refine arU32 (by omega) (by omega) ?_; conv => whnf) | (refine arU8 (by omega) (by omega) ?_; conv => whnf)))
            refine dsplit (fun h1 => absurd (show (0 : Int) < ((cn 0 : Nat) : Int) from h1) (by omega)) (fun h1 => ?_)
            conv => whnf
            refine arI64 (by omega) (by omega) ?_
            conv => whnf
            intro act aw hs
            refine ⟨(1, V), show 1 ≤ 8 by omega, show 8 - 1 < 8 - 0 by omega, ?_⟩
            rw [hs3]
            conv => whnf
            refine satP_imp hs ?_
            refine imp_intro hA [0, 1, 2, 3, 4, 5, 6, 7] rfl rfl rfl regs_a ?_ rfl
            exact has_a
        · have hin := rInner1_spec (cn 1) ((l3 1 cn p0 1).1 : Int) (by have := hcn64 1; omega)
          have hMc := l3_le (l := 1) (p0 := p0) hcn64 1
          have hMd := l3_le (l := 1) (p0 := p0) hcn64 2
          cases hb : Nat.blt 0 (cn 1) with
          | true =>
            have hb1 : 0 < cn 1 := Nat.le_of_ble_eq_true hb
            have hs3 := l3_yes (l := 1) (p0 := p0) hb
            have hs4 : (l3 1 cn p0 2).1 = (l3 1 cn p0 1).1 + inN 1 (cn 1) := by rw [hs3]
            conv => whnf
            (refine join_plain ?_; conv => whnf)
            (repeat' (first | (refine And.intro (by (first | omega | assumption | (simp only [nadd_eq]; omega) | (simp [nadd_eq]; omega))) ?_; conv => whnf) | (refine arI64 (by omega) (by omega) ?_; conv => whnf) | (refine arU32 (by omega) (by omega) ?_; conv => whnf) | (refine arU8 (by omega) (by omega) ?_; conv => whnf)))
            refine dsplit (fun h1 => ?_) (fun h1 => absurd (show (0 : Int) < ((cn 1 : Nat) : Int) by omega) h1)
            conv => whnf
            (refine drawP_lazy (by rw [hP]; exact follows) 60 (by kernel_rfl) ?_; conv => whnf)
            repeat' (first | (refine And.intro (by first | omega | decide | (simp [nadd_eq]; omega)) ?_; conv => whnf) | (refine arI64 (by omega) (by omega) ?_; conv => whnf) | (refine And.intro ?_ ?_ <;> (conv => whnf)))
            all_goals (refine callD_auto hP (hin) ?_; conv => whnf); (refine ⟨⟨rfl, rfl, rfl, has_a, rfl, rfl⟩, ?_⟩; conv => whnf)
            repeat' (first | (refine And.intro (by first | omega | decide | (simp [nadd_eq]; omega)) ?_; conv => whnf) | (refine arI64 (by omega) (by omega) ?_; conv => whnf) | (refine And.intro ?_ ?_ <;> (conv => whnf)))
            all_goals
              refine arI64_to (m := (((l3 1 cn p0 2).1 : Nat) : Int)) (show (((l3 1 cn p0 1).1 : Nat) : Int) + ((inN 1 (cn 1) : Nat) : Int) = _ by rw [hs4]; omega) (by omega) (by omega) ?_
              conv => whnf
              refine arI64 (by omega) (by omega) ?_
              conv => whnf
              intro act aw hs
              obtain ⟨v, hs⟩ := sat_forget (k := 1) (j := 12) hs rfl rfl
              refine ⟨(2, fun j => if j = 4 then .int .i64 1 else if j = 5 then v else if j = 5 then .pointer none else if j = 6 then .pointer none else if j = 7 then .pointer none else V j), show 2 ≤ 8 by omega, show 8 - 2 < 8 - 1 by omega, ?_⟩
              conv => whnf
              refine satP_imp hs ?_
              refine imp_intro hA [0, 1, 2, 3, 4, 5, 6, 7] rfl rfl rfl regs_a ?_ rfl
              exact has_a
          | false =>
            have hb1 : ¬ 0 < cn 1 := fun hh => by have h2 : Nat.blt 0 (cn 1) = true := Nat.ble_eq_true_of_le hh; rw [h2] at hb; cases hb
            have hs3 := l3_no (l := 1) (p0 := p0) hb
            conv => whnf
            (refine join_plain ?_; conv => whnf)
            (repeat' (first | (refine And.intro (by (first | omega | assumption | (simp only [nadd_eq]; omega) | (simp [nadd_eq]; omega))) ?_; conv => whnf) | (refine arI64 (by omega) (by omega) ?_; conv => whnf) | (refine arU32 (by omega) (by omega) ?_; conv => whnf) | (refine arU8 (by omega) (by omega) ?_; conv => whnf)))
            refine dsplit (fun h1 => absurd (show (0 : Int) < ((cn 1 : Nat) : Int) from h1) (by omega)) (fun h1 => ?_)
            conv => whnf
            refine arI64 (by omega) (by omega) ?_
            conv => whnf
            intro act aw hs
            refine ⟨(2, V), show 2 ≤ 8 by omega, show 8 - 2 < 8 - 1 by omega, ?_⟩
            rw [hs3]
            conv => whnf
            refine satP_imp hs ?_
            refine imp_intro hA [0, 1, 2, 3, 4, 5, 6, 7] rfl rfl rfl regs_a ?_ rfl
            exact has_a
        · have hin := rInner1_spec (cn 2) ((l3 1 cn p0 2).1 : Int) (by have := hcn64 2; omega)
          have hMc := l3_le (l := 1) (p0 := p0) hcn64 2
          have hMd := l3_le (l := 1) (p0 := p0) hcn64 3
          cases hb : Nat.blt 0 (cn 2) with
          | true =>
            have hb1 : 0 < cn 2 := Nat.le_of_ble_eq_true hb
            have hs3 := l3_yes (l := 1) (p0 := p0) hb
            have hs4 : (l3 1 cn p0 3).1 = (l3 1 cn p0 2).1 + inN 1 (cn 2) := by rw [hs3]
            conv => whnf
            (refine join_plain ?_; conv => whnf)
            (repeat' (first | (refine And.intro (by (first | omega | assumption | (simp only [nadd_eq]; omega) | (simp [nadd_eq]; omega))) ?_; conv => whnf) | (refine arI64 (by omega) (by omega) ?_; conv => whnf) | (refine arU32 (by omega) (by omega) ?_; conv => whnf) | (refine arU8 (by omega) (by omega) ?_; conv => whnf)))
            refine dsplit (fun h1 => ?_) (fun h1 => absurd (show (0 : Int) < ((cn 2 : Nat) : Int) by omega) h1)
            conv => whnf
            (refine drawP_lazy (by rw [hP]; exact follows) 60 (by kernel_rfl) ?_; conv => whnf)
            repeat' (first | (refine And.intro (by first | omega | decide | (simp [nadd_eq]; omega)) ?_; conv => whnf) | (refine arI64 (by omega) (by omega) ?_; conv => whnf) | (refine And.intro ?_ ?_ <;> (conv => whnf)))
            all_goals (refine callD_auto hP (hin) ?_; conv => whnf); (refine ⟨⟨rfl, rfl, rfl, has_a, rfl, rfl⟩, ?_⟩; conv => whnf)
            repeat' (first | (refine And.intro (by first | omega | decide | (simp [nadd_eq]; omega)) ?_; conv => whnf) | (refine arI64 (by omega) (by omega) ?_; conv => whnf) | (refine And.intro ?_ ?_ <;> (conv => whnf)))
            all_goals
              refine arI64_to (m := (((l3 1 cn p0 3).1 : Nat) : Int)) (show (((l3 1 cn p0 2).1 : Nat) : Int) + ((inN 1 (cn 2) : Nat) : Int) = _ by rw [hs4]; omega) (by omega) (by omega) ?_
              conv => whnf
              refine arI64 (by omega) (by omega) ?_
              conv => whnf
              intro act aw hs
              obtain ⟨v, hs⟩ := sat_forget (k := 1) (j := 16) hs rfl rfl
              refine ⟨(3, fun j => if j = 8 then .int .i64 1 else if j = 9 then v else if j = 9 then .pointer none else if j = 10 then .pointer none else if j = 11 then .pointer none else V j), show 3 ≤ 8 by omega, show 8 - 3 < 8 - 2 by omega, ?_⟩
              conv => whnf
              refine satP_imp hs ?_
              refine imp_intro hA [0, 1, 2, 3, 4, 5, 6, 7] rfl rfl rfl regs_a ?_ rfl
              exact has_a
          | false =>
            have hb1 : ¬ 0 < cn 2 := fun hh => by have h2 : Nat.blt 0 (cn 2) = true := Nat.ble_eq_true_of_le hh; rw [h2] at hb; cases hb
            have hs3 := l3_no (l := 1) (p0 := p0) hb
            conv => whnf
            (refine join_plain ?_; conv => whnf)
            (repeat' (first | (refine And.intro (by (first | omega | assumption | (simp only [nadd_eq]; omega) | (simp [nadd_eq]; omega))) ?_; conv => whnf) | (refine arI64 (by omega) (by omega) ?_; conv => whnf) | (refine arU32 (by omega) (by omega) ?_; conv => whnf) | (refine arU8 (by omega) (by omega) ?_; conv => whnf)))
            refine dsplit (fun h1 => absurd (show (0 : Int) < ((cn 2 : Nat) : Int) from h1) (by omega)) (fun h1 => ?_)
            conv => whnf
            refine arI64 (by omega) (by omega) ?_
            conv => whnf
            intro act aw hs
            refine ⟨(3, V), show 3 ≤ 8 by omega, show 8 - 3 < 8 - 2 by omega, ?_⟩
            rw [hs3]
            conv => whnf
            refine satP_imp hs ?_
            refine imp_intro hA [0, 1, 2, 3, 4, 5, 6, 7] rfl rfl rfl regs_a ?_ rfl
            exact has_a
        · have hin := rInner1_spec (cn 3) ((l3 1 cn p0 3).1 : Int) (by have := hcn64 3; omega)
          have hMc := l3_le (l := 1) (p0 := p0) hcn64 3
          have hMd := l3_le (l := 1) (p0 := p0) hcn64 4
          cases hb : Nat.blt 0 (cn 3) with
          | true =>
            have hb1 : 0 < cn 3 := Nat.le_of_ble_eq_true hb
            have hs3 := l3_yes (l := 1) (p0 := p0) hb
            have hs4 : (l3 1 cn p0 4).1 = (l3 1 cn p0 3).1 + inN 1 (cn 3) := by rw [hs3]
            conv => whnf
            (refine join_plain ?_; conv => whnf)
            (repeat' (first | (refine And.intro (by (first | omega | assumption | (simp only [nadd_eq]; omega) | (simp [nadd_eq]; omega))) ?_; conv => whnf) | (refine arI64 (by omega) (by omega) ?_; conv => whnf) | (refine arU32 (by omega) (by omega) ?_; conv => whnf) | (refine arU8 (by omega) (by omega) ?_; conv => whnf)))
            refine dsplit (fun h1 => ?_) (fun h1 => absurd (show (0 : Int) < ((cn 3 : Nat) : Int) by omega) h1)
            conv => whnf
            (refine drawP_lazy (by rw [hP]; exact follows) 60 (by kernel_rfl) ?_; conv => whnf)
            repeat' (first | (refine And.intro (by first | omega | decide | (simp [nadd_eq]; omega)) ?_; conv => whnf) | (refine arI64 (by omega) (by omega) ?_; conv => whnf) | (refine And.intro ?_ ?_ <;> (conv => whnf)))
            all_goals (refine callD_auto hP (hin) ?_; conv => whnf); (refine ⟨⟨rfl, rfl, rfl, has_a, rfl, rfl⟩, ?_⟩; conv => whnf)
            repeat' (first | (refine And.intro (by first | omega | decide | (simp [nadd_eq]; omega)) ?_; conv => whnf) | (refine arI64 (by omega) (by omega) ?_; conv => whnf) | (refine And.intro ?_ ?_ <;> (conv => whnf)))
            all_goals
              refine arI64_to (m := (((l3 1 cn p0 4).1 : Nat) : Int)) (show (((l3 1 cn p0 3).1 : Nat) : Int) + ((inN 1 (cn 3) : Nat) : Int) = _ by rw [hs4]; omega) (by omega) (by omega) ?_
              conv => whnf
              refine arI64 (by omega) (by omega) ?_
              conv => whnf
              intro act aw hs
              obtain ⟨v, hs⟩ := sat_forget (k := 1) (j := 20) hs rfl rfl
              refine ⟨(4, fun j => if j = 12 then .int .i64 1 else if j = 13 then v else if j = 13 then .pointer none else if j = 14 then .pointer none else if j = 15 then .pointer none else V j), show 4 ≤ 8 by omega, show 8 - 4 < 8 - 3 by omega, ?_⟩
              conv => whnf
              refine satP_imp hs ?_
              refine imp_intro hA [0, 1, 2, 3, 4, 5, 6, 7] rfl rfl rfl regs_a ?_ rfl
              exact has_a
          | false =>
            have hb1 : ¬ 0 < cn 3 := fun hh => by have h2 : Nat.blt 0 (cn 3) = true := Nat.ble_eq_true_of_le hh; rw [h2] at hb; cases hb
            have hs3 := l3_no (l := 1) (p0 := p0) hb
            conv => whnf
            (refine join_plain ?_; conv => whnf)
            (repeat' (first | (refine And.intro (by (first | omega | assumption | (simp only [nadd_eq]; omega) | (simp [nadd_eq]; omega))) ?_; conv => whnf) | (refine arI64 (by omega) (by omega) ?_; conv => whnf) | (refine arU32 (by omega) (by omega) ?_; conv => whnf) | (refine arU8 (by omega) (by omega) ?_; conv => whnf)))
            refine dsplit (fun h1 => absurd (show (0 : Int) < ((cn 3 : Nat) : Int) from h1) (by omega)) (fun h1 => ?_)
            conv => whnf
            refine arI64 (by omega) (by omega) ?_
            conv => whnf
            intro act aw hs
            refine ⟨(4, V), show 4 ≤ 8 by omega, show 8 - 4 < 8 - 3 by omega, ?_⟩
            rw [hs3]
            conv => whnf
            refine satP_imp hs ?_
            refine imp_intro hA [0, 1, 2, 3, 4, 5, 6, 7] rfl rfl rfl regs_a ?_ rfl
            exact has_a
        · have hin := rInner1_spec (cn 4) ((l3 1 cn p0 4).1 : Int) (by have := hcn64 4; omega)
          have hMc := l3_le (l := 1) (p0 := p0) hcn64 4
          have hMd := l3_le (l := 1) (p0 := p0) hcn64 5
          cases hb : Nat.blt 0 (cn 4) with
          | true =>
            have hb1 : 0 < cn 4 := Nat.le_of_ble_eq_true hb
            have hs3 := l3_yes (l := 1) (p0 := p0) hb
            have hs4 : (l3 1 cn p0 5).1 = (l3 1 cn p0 4).1 + inN 1 (cn 4) := by rw [hs3]
            conv => whnf
            (refine join_plain ?_; conv => whnf)
            (repeat' (first | (refine And.intro (by (first | omega | assumption | (simp only [nadd_eq]; omega) | (simp [nadd_eq]; omega))) ?_; conv => whnf) | (refine arI64 (by omega) (by omega) ?_; conv => whnf) | (refine arU32 (by omega) (by omega) ?_; conv => whnf) | (refine arU8 (by omega) (by omega) ?_; conv => whnf)))
            refine dsplit (fun h1 => ?_) (fun h1 => absurd (show (0 : Int) < ((cn 4 : Nat) : Int) by omega) h1)
            conv => whnf
            (refine drawP_lazy (by rw [hP]; exact follows) 60 (by kernel_rfl) ?_; conv => whnf)
            repeat' (first | (refine And.intro (by first | omega | decide | (simp [nadd_eq]; omega)) ?_; conv => whnf) | (refine arI64 (by omega) (by omega) ?_; conv => whnf) | (refine And.intro ?_ ?_ <;> (conv => whnf)))
            all_goals (refine callD_auto hP (hin) ?_; conv => whnf); (refine ⟨⟨rfl, rfl, rfl, has_a, rfl, rfl⟩, ?_⟩; conv => whnf)
            repeat' (first | (refine And.intro (by first | omega | decide | (simp [nadd_eq]; omega)) ?_; conv => whnf) | (refine arI64 (by omega) (by omega) ?_; conv => whnf) | (refine And.intro ?_ ?_ <;> (conv => whnf)))
            all_goals
              refine arI64_to (m := (((l3 1 cn p0 5).1 : Nat) : Int)) (show (((l3 1 cn p0 4).1 : Nat) : Int) + ((inN 1 (cn 4) : Nat) : Int) = _ by rw [hs4]; omega) (by omega) (by omega) ?_
              conv => whnf
              refine arI64 (by omega) (by omega) ?_
              conv => whnf
              intro act aw hs
              obtain ⟨v, hs⟩ := sat_forget (k := 1) (j := 24) hs rfl rfl
              refine ⟨(5, fun j => if j = 16 then .int .i64 1 else if j = 17 then v else if j = 17 then .pointer none else if j = 18 then .pointer none else if j = 19 then .pointer none else V j), show 5 ≤ 8 by omega, show 8 - 5 < 8 - 4 by omega, ?_⟩
              conv => whnf
              refine satP_imp hs ?_
              refine imp_intro hA [0, 1, 2, 3, 4, 5, 6, 7] rfl rfl rfl regs_a ?_ rfl
              exact has_a
          | false =>
            have hb1 : ¬ 0 < cn 4 := fun hh => by have h2 : Nat.blt 0 (cn 4) = true := Nat.ble_eq_true_of_le hh; rw [h2] at hb; cases hb
            have hs3 := l3_no (l := 1) (p0 := p0) hb
            conv => whnf
            (refine join_plain ?_; conv => whnf)
            (repeat' (first | (refine And.intro (by (first | omega | assumption | (simp only [nadd_eq]; omega) | (simp [nadd_eq]; omega))) ?_; conv => whnf) | (refine arI64 (by omega) (by omega) ?_; conv => whnf) | (refine arU32 (by omega) (by omega) ?_; conv => whnf) | (refine arU8 (by omega) (by omega) ?_; conv => whnf)))
            refine dsplit (fun h1 => absurd (show (0 : Int) < ((cn 4 : Nat) : Int) from h1) (by omega)) (fun h1 => ?_)
            conv => whnf
            refine arI64 (by omega) (by omega) ?_
            conv => whnf
            intro act aw hs
            refine ⟨(5, V), show 5 ≤ 8 by omega, show 8 - 5 < 8 - 4 by omega, ?_⟩
            rw [hs3]
            conv => whnf
            refine satP_imp hs ?_
            refine imp_intro hA [0, 1, 2, 3, 4, 5, 6, 7] rfl rfl rfl regs_a ?_ rfl
            exact has_a
        · have hin := rInner1_spec (cn 5) ((l3 1 cn p0 5).1 : Int) (by have := hcn64 5; omega)
          have hMc := l3_le (l := 1) (p0 := p0) hcn64 5
          have hMd := l3_le (l := 1) (p0 := p0) hcn64 6
          cases hb : Nat.blt 0 (cn 5) with
          | true =>
            have hb1 : 0 < cn 5 := Nat.le_of_ble_eq_true hb
            have hs3 := l3_yes (l := 1) (p0 := p0) hb
            have hs4 : (l3 1 cn p0 6).1 = (l3 1 cn p0 5).1 + inN 1 (cn 5) := by rw [hs3]
            conv => whnf
            (refine join_plain ?_; conv => whnf)
            (repeat' (first | (refine And.intro (by (first | omega | assumption | (simp only [nadd_eq]; omega) | (simp [nadd_eq]; omega))) ?_; conv => whnf) | (refine arI64 (by omega) (by omega) ?_; conv => whnf) | (refine arU32 (by omega) (by omega) ?_; conv => whnf) | (refine arU8 (by omega) (by omega) ?_; conv => whnf)))
            refine dsplit (fun h1 => ?_) (fun h1 => absurd (show (0 : Int) < ((cn 5 : Nat) : Int) by omega) h1)
            conv => whnf
            (refine drawP_lazy (by rw [hP]; exact follows) 60 (by kernel_rfl) ?_; conv => whnf)
            repeat' (first | (refine And.intro (by first | omega | decide | (simp [nadd_eq]; omega)) ?_; conv => whnf) | (refine arI64 (by omega) (by omega) ?_; conv => whnf) | (refine And.intro ?_ ?_ <;> (conv => whnf)))
            all_goals (refine callD_auto hP (hin) ?_; conv => whnf); (refine ⟨⟨rfl, rfl, rfl, has_a, rfl, rfl⟩, ?_⟩; conv => whnf)
            repeat' (first | (refine And.intro (by first | omega | decide | (simp [nadd_eq]; omega)) ?_; conv => whnf) | (refine arI64 (by omega) (by omega) ?_; conv => whnf) | (refine And.intro ?_ ?_ <;> (conv => whnf)))
            all_goals
              refine arI64_to (m := (((l3 1 cn p0 6).1 : Nat) : Int)) (show (((l3 1 cn p0 5).1 : Nat) : Int) + ((inN 1 (cn 5) : Nat) : Int) = _ by rw [hs4]; omega) (by omega) (by omega) ?_
              conv => whnf
              refine arI64 (by omega) (by omega) ?_
              conv => whnf
              intro act aw hs
              obtain ⟨v, hs⟩ := sat_forget (k := 1) (j := 28) hs rfl rfl
              refine ⟨(6, fun j => if j = 20 then .int .i64 1 else if j = 21 then v else if j = 21 then .pointer none else if j = 22 then .pointer none else if j = 23 then .pointer none else V j), show 6 ≤ 8 by omega, show 8 - 6 < 8 - 5 by omega, ?_⟩
              conv => whnf
              refine satP_imp hs ?_
              refine imp_intro hA [0, 1, 2, 3, 4, 5, 6, 7] rfl rfl rfl regs_a ?_ rfl
              exact has_a
          | false =>
            have hb1 : ¬ 0 < cn 5 := fun hh => by have h2 : Nat.blt 0 (cn 5) = true := Nat.ble_eq_true_of_le hh; rw [h2] at hb; cases hb
            have hs3 := l3_no (l := 1) (p0 := p0) hb
            conv => whnf
            (refine join_plain ?_; conv => whnf)
            (repeat' (first | (refine And.intro (by (first | omega | assumption | (simp only [nadd_eq]; omega) | (simp [nadd_eq]; omega))) ?_; conv => whnf) | (refine arI64 (by omega) (by omega) ?_; conv => whnf) | (refine arU32 (by omega) (by omega) ?_; conv => whnf) | (refine arU8 (by omega) (by omega) ?_; conv => whnf)))
            refine dsplit (fun h1 => absurd (show (0 : Int) < ((cn 5 : Nat) : Int) from h1) (by omega)) (fun h1 => ?_)
            conv => whnf
            refine arI64 (by omega) (by omega) ?_
            conv => whnf
            intro act aw hs
            refine ⟨(6, V), show 6 ≤ 8 by omega, show 8 - 6 < 8 - 5 by omega, ?_⟩
            rw [hs3]
            conv => whnf
            refine satP_imp hs ?_
            refine imp_intro hA [0, 1, 2, 3, 4, 5, 6, 7] rfl rfl rfl regs_a ?_ rfl
            exact has_a
        · have hin := rInner1_spec (cn 6) ((l3 1 cn p0 6).1 : Int) (by have := hcn64 6; omega)
          have hMc := l3_le (l := 1) (p0 := p0) hcn64 6
          have hMd := l3_le (l := 1) (p0 := p0) hcn64 7
          cases hb : Nat.blt 0 (cn 6) with
          | true =>
            have hb1 : 0 < cn 6 := Nat.le_of_ble_eq_true hb
            have hs3 := l3_yes (l := 1) (p0 := p0) hb
            have hs4 : (l3 1 cn p0 7).1 = (l3 1 cn p0 6).1 + inN 1 (cn 6) := by rw [hs3]
            conv => whnf
            (refine join_plain ?_; conv => whnf)
            (repeat' (first | (refine And.intro (by (first | omega | assumption | (simp only [nadd_eq]; omega) | (simp [nadd_eq]; omega))) ?_; conv => whnf) | (refine arI64 (by omega) (by omega) ?_; conv => whnf) | (refine arU32 (by omega) (by omega) ?_; conv => whnf) | (refine arU8 (by omega) (by omega) ?_; conv => whnf)))
            refine dsplit (fun h1 => ?_) (fun h1 => absurd (show (0 : Int) < ((cn 6 : Nat) : Int) by omega) h1)
            conv => whnf
            (refine drawP_lazy (by rw [hP]; exact follows) 60 (by kernel_rfl) ?_; conv => whnf)
            repeat' (first | (refine And.intro (by first | omega | decide | (simp [nadd_eq]; omega)) ?_; conv => whnf) | (refine arI64 (by omega) (by omega) ?_; conv => whnf) | (refine And.intro ?_ ?_ <;> (conv => whnf)))
            all_goals (refine callD_auto hP (hin) ?_; conv => whnf); (refine ⟨⟨rfl, rfl, rfl, has_a, rfl, rfl⟩, ?_⟩; conv => whnf)
            repeat' (first | (refine And.intro (by first | omega | decide | (simp [nadd_eq]; omega)) ?_; conv => whnf) | (refine arI64 (by omega) (by omega) ?_; conv => whnf) | (refine And.intro ?_ ?_ <;> (conv => whnf)))
            all_goals
              refine arI64_to (m := (((l3 1 cn p0 7).1 : Nat) : Int)) (show (((l3 1 cn p0 6).1 : Nat) : Int) + ((inN 1 (cn 6) : Nat) : Int) = _ by rw [hs4]; omega) (by omega) (by omega) ?_
              conv => whnf
              refine arI64 (by omega) (by omega) ?_
              conv => whnf
              intro act aw hs
              obtain ⟨v, hs⟩ := sat_forget (k := 1) (j := 32) hs rfl rfl
              refine ⟨(7, fun j => if j = 24 then .int .i64 1 else if j = 25 then v else if j = 25 then .pointer none else if j = 26 then .pointer none else if j = 27 then .pointer none else V j), show 7 ≤ 8 by omega, show 8 - 7 < 8 - 6 by omega, ?_⟩
              conv => whnf
              refine satP_imp hs ?_
              refine imp_intro hA [0, 1, 2, 3, 4, 5, 6, 7] rfl rfl rfl regs_a ?_ rfl
              exact has_a
          | false =>
            have hb1 : ¬ 0 < cn 6 := fun hh => by have h2 : Nat.blt 0 (cn 6) = true := Nat.ble_eq_true_of_le hh; rw [h2] at hb; cases hb
            have hs3 := l3_no (l := 1) (p0 := p0) hb
            conv => whnf
            (refine join_plain ?_; conv => whnf)
            (repeat' (first | (refine And.intro (by (first | omega | assumption | (simp only [nadd_eq]; omega) | (simp [nadd_eq]; omega))) ?_; conv => whnf) | (refine arI64 (by omega) (by omega) ?_; conv => whnf) | (refine arU32 (by omega) (by omega) ?_; conv => whnf) | (refine arU8 (by omega) (by omega) ?_; conv => whnf)))
            refine dsplit (fun h1 => absurd (show (0 : Int) < ((cn 6 : Nat) : Int) from h1) (by omega)) (fun h1 => ?_)
            conv => whnf
            refine arI64 (by omega) (by omega) ?_
            conv => whnf
            intro act aw hs
            refine ⟨(7, V), show 7 ≤ 8 by omega, show 8 - 7 < 8 - 6 by omega, ?_⟩
            rw [hs3]
            conv => whnf
            refine satP_imp hs ?_
            refine imp_intro hA [0, 1, 2, 3, 4, 5, 6, 7] rfl rfl rfl regs_a ?_ rfl
            exact has_a
        · have hin := rInner1_spec (cn 7) ((l3 1 cn p0 7).1 : Int) (by have := hcn64 7; omega)
          have hMc := l3_le (l := 1) (p0 := p0) hcn64 7
          have hMd := l3_le (l := 1) (p0 := p0) hcn64 8
          cases hb : Nat.blt 0 (cn 7) with
          | true =>
            have hb1 : 0 < cn 7 := Nat.le_of_ble_eq_true hb
            have hs3 := l3_yes (l := 1) (p0 := p0) hb
            have hs4 : (l3 1 cn p0 8).1 = (l3 1 cn p0 7).1 + inN 1 (cn 7) := by rw [hs3]
            conv => whnf
            (refine join_plain ?_; conv => whnf)
            (repeat' (first | (refine And.intro (by (first | omega | assumption | (simp only [nadd_eq]; omega) | (simp [nadd_eq]; omega))) ?_; conv => whnf) | (refine arI64 (by omega) (by omega) ?_; conv => whnf) | (refine arU32 (by omega) (by omega) ?_; conv => whnf) | (refine arU8 (by omega) (by omega) ?_; conv => whnf)))
            refine dsplit (fun h1 => ?_) (fun h1 => absurd (show (0 : Int) < ((cn 7 : Nat) : Int) by omega) h1)
            conv => whnf
            (refine drawP_lazy (by rw [hP]; exact follows) 60 (by kernel_rfl) ?_; conv => whnf)
            repeat' (first | (refine And.intro (by first | omega | decide | (simp [nadd_eq]; omega)) ?_; conv => whnf) | (refine arI64 (by omega) (by omega) ?_; conv => whnf) | (refine And.intro ?_ ?_ <;> (conv => whnf)))
            all_goals (refine callD_auto hP (hin) ?_; conv => whnf); (refine ⟨⟨rfl, rfl, rfl, has_a, rfl, rfl⟩, ?_⟩; conv => whnf)
            repeat' (first | (refine And.intro (by first | omega | decide | (simp [nadd_eq]; omega)) ?_; conv => whnf) | (refine arI64 (by omega) (by omega) ?_; conv => whnf) | (refine And.intro ?_ ?_ <;> (conv => whnf)))
            all_goals
              refine arI64_to (m := (((l3 1 cn p0 8).1 : Nat) : Int)) (show (((l3 1 cn p0 7).1 : Nat) : Int) + ((inN 1 (cn 7) : Nat) : Int) = _ by rw [hs4]; omega) (by omega) (by omega) ?_
              conv => whnf
              refine arI64 (by omega) (by omega) ?_
              conv => whnf
              intro act aw hs
              obtain ⟨v, hs⟩ := sat_forget (k := 1) (j := 36) hs rfl rfl
              refine ⟨(8, fun j => if j = 28 then .int .i64 1 else if j = 29 then v else if j = 29 then .pointer none else if j = 30 then .pointer none else if j = 31 then .pointer none else V j), show 8 ≤ 8 by omega, show 8 - 8 < 8 - 7 by omega, ?_⟩
              conv => whnf
              refine satP_imp hs ?_
              refine imp_intro hA [0, 1, 2, 3, 4, 5, 6, 7] rfl rfl rfl regs_a ?_ rfl
              exact has_a
          | false =>
            have hb1 : ¬ 0 < cn 7 := fun hh => by have h2 : Nat.blt 0 (cn 7) = true := Nat.ble_eq_true_of_le hh; rw [h2] at hb; cases hb
            have hs3 := l3_no (l := 1) (p0 := p0) hb
            conv => whnf
            (refine join_plain ?_; conv => whnf)
            (repeat' (first | (refine And.intro (by (first | omega | assumption | (simp only [nadd_eq]; omega) | (simp [nadd_eq]; omega))) ?_; conv => whnf) | (refine arI64 (by omega) (by omega) ?_; conv => whnf) | (refine arU32 (by omega) (by omega) ?_; conv => whnf) | (refine arU8 (by omega) (by omega) ?_; conv => whnf)))
            refine dsplit (fun h1 => absurd (show (0 : Int) < ((cn 7 : Nat) : Int) from h1) (by omega)) (fun h1 => ?_)
            conv => whnf
            refine arI64 (by omega) (by omega) ?_
            conv => whnf
            intro act aw hs
            refine ⟨(8, V), show 8 ≤ 8 by omega, show 8 - 8 < 8 - 7 by omega, ?_⟩
            rw [hs3]
            conv => whnf
            refine satP_imp hs ?_
            refine imp_intro hA [0, 1, 2, 3, 4, 5, 6, 7] rfl rfl rfl regs_a ?_ rfl
            exact has_a
        · have hMc := l3_le (l := 1) (p0 := p0) hcn64 8
          conv => whnf
          refine arI64_to (m := (((l3 1 cn p0 8).1 : Nat) : Int)) (show (((l3 1 cn p0 8).1 : Nat) : Int) - 0 = _ by omega) (by omega) (by omega) ?_
          conv => whnf
          refine finP_forget 1 0 rfl rfl fun v0 => ?_
          refine finP_forget 1 39 rfl rfl fun v1 => ?_
          refine finP_forget 1 40 rfl rfl fun v2 => ?_
          refine finP_forget 1 41 rfl rfl fun v3 => ?_
          refine finP_forget 1 42 rfl rfl fun v4 => ?_
          refine finP_intro [0, 1] (.o (.l (.p 1 0 0 0))) [(1, some (.st (r16C (fun j => match j with | 0 => v0 | 1 => .int .i64 0 | 2 => .int .i64 bu | 3 => .int .i64 g | 4 => .pointer pa | 5 => .pointer pb | 6 => .pointer pc | 39 => v1 | 40 => v2 | 41 => v3 | 42 => v4 | j => V (j - 7)) ((l3 1 cn p0 8).1 : Int))))] 2 rfl ⟨_, rfl, rfl, by rw [hN]⟩ rfl rfl rfl ⟨rfl, trivial⟩ rfl
      · refine loop_ex (α := Nat × (Nat → Value)) (ds := []) (N := 8) (fun x => [(17, sInt .i64 (x.1 : Int)), (4, sInt .i64 ((l3 3 cn p0 x.1).1 : Int))]) []
          (fun x => [(1, some (.st [.p 2 0 0 0, .v (.int .i64 0), .v (.int .i64 bu), .v (.int .i64 g), .v (.pointer pa), .v (.pointer pb), .v (.pointer pc), .v (x.2 0), .v (x.2 1), .v (x.2 2), .v (x.2 3), .v (x.2 4), .v (x.2 5), .v (x.2 6), .v (x.2 7), .v (x.2 8), .v (x.2 9), .v (x.2 10), .v (x.2 11), .v (x.2 12), .v (x.2 13), .v (x.2 14), .v (x.2 15), .v (x.2 16), .v (x.2 17), .v (x.2 18), .v (x.2 19), .v (x.2 20), .v (x.2 21), .v (x.2 22), .v (x.2 23), .v (x.2 24), .v (x.2 25), .v (x.2 26), .v (x.2 27), .v (x.2 28), .v (x.2 29), .v (x.2 30), .v (x.2 31), .s 6 1 0 m 0, .s 7 1 0 m 0, .s 3 1 0 m 0, .s 4 1 0 m 0, .v (.int .i64 0)]))])
          (fun x => x.1 ≤ 8) (fun x => 8 - x.1) (0, V0) (Nat.zero_le _) ?_ fun x hx => ?_
        · conv => whnf
          refine imp_intro hA [0, 1, 2, 3, 4, 5, 6, 7] rfl rfl rfl regs_a ?_ rfl
          exact has_a
        obtain ⟨c, V⟩ := x
        replace hx : c ≤ 8 := hx
        rcases (show c = 0 ∨ c = 1 ∨ c = 2 ∨ c = 3 ∨ c = 4 ∨ c = 5 ∨ c = 6 ∨ c = 7 ∨ c = 8 by omega) with rfl | rfl | rfl | rfl | rfl | rfl | rfl | rfl | rfl
        · have hin := rInner3_spec (cn 0) ((l3 3 cn p0 0).1 : Int) (by have := hcn64 0; omega)
          have hMc := l3_le (l := 3) (p0 := p0) hcn64 0
          have hMd := l3_le (l := 3) (p0 := p0) hcn64 1
          cases hb : Nat.blt 0 (cn 0) with
          | true =>
            have hb1 : 0 < cn 0 := Nat.le_of_ble_eq_true hb
            have hs3 := l3_yes (l := 3) (p0 := p0) hb
            have hs4 : (l3 3 cn p0 1).1 = (l3 3 cn p0 0).1 + inN 3 (cn 0) := by rw [hs3]
            conv => whnf
            (refine join_plain ?_; conv => whnf)
            (repeat' (first | (refine And.intro (by (first | omega | assumption | (simp only [nadd_eq]; omega) | (simp [nadd_eq]; omega))) ?_; conv => whnf) | (refine arI64 (by omega) (by omega) ?_; conv => whnf) | (refine arU32 (by omega) (by omega) ?_; conv => whnf) | (refine arU8 (by omega) (by omega) ?_; conv => whnf)))
            refine dsplit (fun h1 => ?_) (fun h1 => absurd (show (0 : Int) < ((cn 0 : Nat) : Int) by omega) h1)
            conv => whnf
            (refine drawP_lazy (by rw [hP]; exact follows) 60 (by kernel_rfl) ?_; conv => whnf)
            repeat' (first | (refine And.intro (by first | omega | decide | (simp [nadd_eq]; omega)) ?_; conv => whnf) | (refine arI64 (by omega) (by omega) ?_; conv => whnf) | (refine And.intro ?_ ?_ <;> (conv => whnf)))
            all_goals (refine callD_auto hP (hin) ?_; conv => whnf); (refine ⟨⟨rfl, rfl, rfl, has_a, rfl, rfl⟩, ?_⟩; conv => whnf)
            repeat' (first | (refine And.intro (by first | omega | decide | (simp [nadd_eq]; omega)) ?_; conv => whnf) | (refine arI64 (by omega) (by omega) ?_; conv => whnf) | (refine And.intro ?_ ?_ <;> (conv => whnf)))
            all_goals
              refine arI64_to (m := (((l3 3 cn p0 1).1 : Nat) : Int)) (show (((l3 3 cn p0 0).1 : Nat) : Int) + ((inN 3 (cn 0) : Nat) : Int) = _ by rw [hs4]; omega) (by omega) (by omega) ?_
              conv => whnf
              refine arI64 (by omega) (by omega) ?_
              conv => whnf
              intro act aw hs
              obtain ⟨v, hs⟩ := sat_forget (k := 1) (j := 9) hs rfl rfl
              refine ⟨(1, fun j => if j = 0 then .int .i64 3 else if j = 2 then v else if j = 1 then .pointer none else if j = 2 then .pointer none else if j = 3 then .pointer none else V j), show 1 ≤ 8 by omega, show 8 - 1 < 8 - 0 by omega, ?_⟩
              conv => whnf
              refine satP_imp hs ?_
              refine imp_intro hA [0, 1, 2, 3, 4, 5, 6, 7] rfl rfl rfl regs_a ?_ rfl
              exact has_a
          | false =>
            have hb1 : ¬ 0 < cn 0 := fun hh => by have h2 : Nat.blt 0 (cn 0) = true := Nat.ble_eq_true_of_le hh; rw [h2] at hb; cases hb
            have hs3 := l3_no (l := 3) (p0 := p0) hb
            conv => whnf
            (refine join_plain ?_; conv => whnf)
            (repeat' (first | (refine And.intro (by (first | omega | assumption | (simp only [nadd_eq]; omega) | (simp [nadd_eq]; omega))) ?_; conv => whnf) | (refine arI64 (by omega) (by omega) ?_; conv => whnf) | (refine arU32 (by omega) (by omega) ?_; conv => whnf) | (refine arU8 (by omega) (by omega) ?_; conv => whnf)))
            refine dsplit (fun h1 => absurd (show (0 : Int) < ((cn 0 : Nat) : Int) from h1) (by omega)) (fun h1 => ?_)
            conv => whnf
            refine arI64 (by omega) (by omega) ?_
            conv => whnf
            intro act aw hs
            refine ⟨(1, V), show 1 ≤ 8 by omega, show 8 - 1 < 8 - 0 by omega, ?_⟩
            rw [hs3]
            conv => whnf
            refine satP_imp hs ?_
            refine imp_intro hA [0, 1, 2, 3, 4, 5, 6, 7] rfl rfl rfl regs_a ?_ rfl
            exact has_a
        · have hin := rInner3_spec (cn 1) ((l3 3 cn p0 1).1 : Int) (by have := hcn64 1; omega)
          have hMc := l3_le (l := 3) (p0 := p0) hcn64 1
          have hMd := l3_le (l := 3) (p0 := p0) hcn64 2
          cases hb : Nat.blt 0 (cn 1) with
          | true =>
            have hb1 : 0 < cn 1 := Nat.le_of_ble_eq_true hb
            have hs3 := l3_yes (l := 3) (p0 := p0) hb
            have hs4 : (l3 3 cn p0 2).1 = (l3 3 cn p0 1).1 + inN 3 (cn 1) := by rw [hs3]
            conv => whnf
            (refine join_plain ?_; conv => whnf)
            (repeat' (first | (refine And.intro (by (first | omega | assumption | (simp only [nadd_eq]; omega) | (simp [nadd_eq]; omega))) ?_; conv => whnf) | (refine arI64 (by omega) (by omega) ?_; conv => whnf) | (refine arU32 (by omega) (by omega) ?_; conv => whnf) | (refine arU8 (by omega) (by omega) ?_; conv => whnf)))
            refine dsplit (fun h1 => ?_) (fun h1 => absurd (show (0 : Int) < ((cn 1 : Nat) : Int) by omega) h1)
            conv => whnf
            (refine drawP_lazy (by rw [hP]; exact follows) 60 (by kernel_rfl) ?_; conv => whnf)
            repeat' (first | (refine And.intro (by first | omega | decide | (simp [nadd_eq]; omega)) ?_; conv => whnf) | (refine arI64 (by omega) (by omega) ?_; conv => whnf) | (refine And.intro ?_ ?_ <;> (conv => whnf)))
            all_goals (refine callD_auto hP (hin) ?_; conv => whnf); (refine ⟨⟨rfl, rfl, rfl, has_a, rfl, rfl⟩, ?_⟩; conv => whnf)
            repeat' (first | (refine And.intro (by first | omega | decide | (simp [nadd_eq]; omega)) ?_; conv => whnf) | (refine arI64 (by omega) (by omega) ?_; conv => whnf) | (refine And.intro ?_ ?_ <;> (conv => whnf)))
            all_goals
              refine arI64_to (m := (((l3 3 cn p0 2).1 : Nat) : Int)) (show (((l3 3 cn p0 1).1 : Nat) : Int) + ((inN 3 (cn 1) : Nat) : Int) = _ by rw [hs4]; omega) (by omega) (by omega) ?_
              conv => whnf
              refine arI64 (by omega) (by omega) ?_
              conv => whnf
              intro act aw hs
              obtain ⟨v, hs⟩ := sat_forget (k := 1) (j := 13) hs rfl rfl
              refine ⟨(2, fun j => if j = 4 then .int .i64 3 else if j = 6 then v else if j = 5 then .pointer none else if j = 6 then .pointer none else if j = 7 then .pointer none else V j), show 2 ≤ 8 by omega, show 8 - 2 < 8 - 1 by omega, ?_⟩
              conv => whnf
              refine satP_imp hs ?_
              refine imp_intro hA [0, 1, 2, 3, 4, 5, 6, 7] rfl rfl rfl regs_a ?_ rfl
              exact has_a
          | false =>
            have hb1 : ¬ 0 < cn 1 := fun hh => by have h2 : Nat.blt 0 (cn 1) = true := Nat.ble_eq_true_of_le hh; rw [h2] at hb; cases hb
            have hs3 := l3_no (l := 3) (p0 := p0) hb
            conv => whnf
            (refine join_plain ?_; conv => whnf)
            (repeat' (first | (refine And.intro (by (first | omega | assumption | (simp only [nadd_eq]; omega) | (simp [nadd_eq]; omega))) ?_; conv => whnf) | (refine arI64 (by omega) (by omega) ?_; conv => whnf) | (refine arU32 (by omega) (by omega) ?_; conv => whnf) | (refine arU8 (by omega) (by omega) ?_; conv => whnf)))
            refine dsplit (fun h1 => absurd (show (0 : Int) < ((cn 1 : Nat) : Int) from h1) (by omega)) (fun h1 => ?_)
            conv => whnf
            refine arI64 (by omega) (by omega) ?_
            conv => whnf
            intro act aw hs
            refine ⟨(2, V), show 2 ≤ 8 by omega, show 8 - 2 < 8 - 1 by omega, ?_⟩
            rw [hs3]
            conv => whnf
            refine satP_imp hs ?_
            refine imp_intro hA [0, 1, 2, 3, 4, 5, 6, 7] rfl rfl rfl regs_a ?_ rfl
            exact has_a
        · have hin := rInner3_spec (cn 2) ((l3 3 cn p0 2).1 : Int) (by have := hcn64 2; omega)
          have hMc := l3_le (l := 3) (p0 := p0) hcn64 2
          have hMd := l3_le (l := 3) (p0 := p0) hcn64 3
          cases hb : Nat.blt 0 (cn 2) with
          | true =>
            have hb1 : 0 < cn 2 := Nat.le_of_ble_eq_true hb
            have hs3 := l3_yes (l := 3) (p0 := p0) hb
            have hs4 : (l3 3 cn p0 3).1 = (l3 3 cn p0 2).1 + inN 3 (cn 2) := by rw [hs3]
            conv => whnf
            (refine join_plain ?_; conv => whnf)
            (repeat' (first | (refine And.intro (by (first | omega | assumption | (simp only [nadd_eq]; omega) | (simp [nadd_eq]; omega))) ?_; conv => whnf) | (refine arI64 (by omega) (by omega) ?_; conv => whnf) | (refine arU32 (by omega) (by omega) ?_; conv => whnf) | (refine arU8 (by omega) (by omega) ?_; conv => whnf)))
            refine dsplit (fun h1 => ?_) (fun h1 => absurd (show (0 : Int) < ((cn 2 : Nat) : Int) by omega) h1)
            conv => whnf
            (refine drawP_lazy (by rw [hP]; exact follows) 60 (by kernel_rfl) ?_; conv => whnf)
            repeat' (first | (refine And.intro (by first | omega | decide | (simp [nadd_eq]; omega)) ?_; conv => whnf) | (refine arI64 (by omega) (by omega) ?_; conv => whnf) | (refine And.intro ?_ ?_ <;> (conv => whnf)))
            all_goals (refine callD_auto hP (hin) ?_; conv => whnf); (refine ⟨⟨rfl, rfl, rfl, has_a, rfl, rfl⟩, ?_⟩; conv => whnf)
            repeat' (first | (refine And.intro (by first | omega | decide | (simp [nadd_eq]; omega)) ?_; conv => whnf) | (refine arI64 (by omega) (by omega) ?_; conv => whnf) | (refine And.intro ?_ ?_ <;> (conv => whnf)))
            all_goals
              refine arI64_to (m := (((l3 3 cn p0 3).1 : Nat) : Int)) (show (((l3 3 cn p0 2).1 : Nat) : Int) + ((inN 3 (cn 2) : Nat) : Int) = _ by rw [hs4]; omega) (by omega) (by omega) ?_
              conv => whnf
              refine arI64 (by omega) (by omega) ?_
              conv => whnf
              intro act aw hs
              obtain ⟨v, hs⟩ := sat_forget (k := 1) (j := 17) hs rfl rfl
              refine ⟨(3, fun j => if j = 8 then .int .i64 3 else if j = 10 then v else if j = 9 then .pointer none else if j = 10 then .pointer none else if j = 11 then .pointer none else V j), show 3 ≤ 8 by omega, show 8 - 3 < 8 - 2 by omega, ?_⟩
              conv => whnf
              refine satP_imp hs ?_
              refine imp_intro hA [0, 1, 2, 3, 4, 5, 6, 7] rfl rfl rfl regs_a ?_ rfl
              exact has_a
          | false =>
            have hb1 : ¬ 0 < cn 2 := fun hh => by have h2 : Nat.blt 0 (cn 2) = true := Nat.ble_eq_true_of_le hh; rw [h2] at hb; cases hb
            have hs3 := l3_no (l := 3) (p0 := p0) hb
            conv => whnf
            (refine join_plain ?_; conv => whnf)
            (repeat' (first | (refine And.intro (by (first | omega | assumption | (simp only [nadd_eq]; omega) | (simp [nadd_eq]; omega))) ?_; conv => whnf) | (refine arI64 (by omega) (by omega) ?_; conv => whnf) | (refine arU32 (by omega) (by omega) ?_; conv => whnf) | (refine arU8 (by omega) (by omega) ?_; conv => whnf)))
            refine dsplit (fun h1 => absurd (show (0 : Int) < ((cn 2 : Nat) : Int) from h1) (by omega)) (fun h1 => ?_)
            conv => whnf
            refine arI64 (by omega) (by omega) ?_
            conv => whnf
            intro act aw hs
            refine ⟨(3, V), show 3 ≤ 8 by omega, show 8 - 3 < 8 - 2 by omega, ?_⟩
            rw [hs3]
            conv => whnf
            refine satP_imp hs ?_
            refine imp_intro hA [0, 1, 2, 3, 4, 5, 6, 7] rfl rfl rfl regs_a ?_ rfl
            exact has_a
        · have hin := rInner3_spec (cn 3) ((l3 3 cn p0 3).1 : Int) (by have := hcn64 3; omega)
          have hMc := l3_le (l := 3) (p0 := p0) hcn64 3
          have hMd := l3_le (l := 3) (p0 := p0) hcn64 4
          cases hb : Nat.blt 0 (cn 3) with
          | true =>
            have hb1 : 0 < cn 3 := Nat.le_of_ble_eq_true hb
            have hs3 := l3_yes (l := 3) (p0 := p0) hb
            have hs4 : (l3 3 cn p0 4).1 = (l3 3 cn p0 3).1 + inN 3 (cn 3) := by rw [hs3]
            conv => whnf
            (refine join_plain ?_; conv => whnf)
            (repeat' (first | (refine And.intro (by (first | omega | assumption | (simp only [nadd_eq]; omega) | (simp [nadd_eq]; omega))) ?_; conv => whnf) | (refine arI64 (by omega) (by omega) ?_; conv => whnf) | (refine arU32 (by omega) (by omega) ?_; conv => whnf) | (refine arU8 (by omega) (by omega) ?_; conv => whnf)))
            refine dsplit (fun h1 => ?_) (fun h1 => absurd (show (0 : Int) < ((cn 3 : Nat) : Int) by omega) h1)
            conv => whnf
            (refine drawP_lazy (by rw [hP]; exact follows) 60 (by kernel_rfl) ?_; conv => whnf)
            repeat' (first | (refine And.intro (by first | omega | decide | (simp [nadd_eq]; omega)) ?_; conv => whnf) | (refine arI64 (by omega) (by omega) ?_; conv => whnf) | (refine And.intro ?_ ?_ <;> (conv => whnf)))
            all_goals (refine callD_auto hP (hin) ?_; conv => whnf); (refine ⟨⟨rfl, rfl, rfl, has_a, rfl, rfl⟩, ?_⟩; conv => whnf)
            repeat' (first | (refine And.intro (by first | omega | decide | (simp [nadd_eq]; omega)) ?_; conv => whnf) | (refine arI64 (by omega) (by omega) ?_; conv => whnf) | (refine And.intro ?_ ?_ <;> (conv => whnf)))
            all_goals
              refine arI64_to (m := (((l3 3 cn p0 4).1 : Nat) : Int)) (show (((l3 3 cn p0 3).1 : Nat) : Int) + ((inN 3 (cn 3) : Nat) : Int) = _ by rw [hs4]; omega) (by omega) (by omega) ?_
              conv => whnf
              refine arI64 (by omega) (by omega) ?_
              conv => whnf
              intro act aw hs
              obtain ⟨v, hs⟩ := sat_forget (k := 1) (j := 21) hs rfl rfl
              refine ⟨(4, fun j => if j = 12 then .int .i64 3 else if j = 14 then v else if j = 13 then .pointer none else if j = 14 then .pointer none else if j = 15 then .pointer none else V j), show 4 ≤ 8 by omega, show 8 - 4 < 8 - 3 by omega, ?_⟩
              conv => whnf
              refine satP_imp hs ?_
              refine imp_intro hA [0, 1, 2, 3, 4, 5, 6, 7] rfl rfl rfl regs_a ?_ rfl
              exact has_a
          | false =>
            have hb1 : ¬ 0 < cn 3 := fun hh => by have h2 : Nat.blt 0 (cn 3) = true := Nat.ble_eq_true_of_le hh; rw [h2] at hb; cases hb
            have hs3 := l3_no (l := 3) (p0 := p0) hb
            conv => whnf
            (refine join_plain ?_; conv => whnf)
            (repeat' (first | (refine And.intro (by (first | omega | assumption | (simp only [nadd_eq]; omega) | (simp [nadd_eq]; omega))) ?_; conv => whnf) | (refine arI64 (by omega) (by omega) ?_; conv => whnf) | (refine arU32 (by omega) (by omega) ?_; conv => whnf) | (refine arU8 (by omega) (by omega) ?_; conv => whnf)))
            refine dsplit (fun h1 => absurd (show (0 : Int) < ((cn 3 : Nat) : Int) from h1) (by omega)) (fun h1 => ?_)
            conv => whnf
            refine arI64 (by omega) (by omega) ?_
            conv => whnf
            intro act aw hs
            refine ⟨(4, V), show 4 ≤ 8 by omega, show 8 - 4 < 8 - 3 by omega, ?_⟩
            rw [hs3]
            conv => whnf
            refine satP_imp hs ?_
            refine imp_intro hA [0, 1, 2, 3, 4, 5, 6, 7] rfl rfl rfl regs_a ?_ rfl
            exact has_a
        · have hin := rInner3_spec (cn 4) ((l3 3 cn p0 4).1 : Int) (by have := hcn64 4; omega)
          have hMc := l3_le (l := 3) (p0 := p0) hcn64 4
          have hMd := l3_le (l := 3) (p0 := p0) hcn64 5
          cases hb : Nat.blt 0 (cn 4) with
          | true =>
            have hb1 : 0 < cn 4 := Nat.le_of_ble_eq_true hb
            have hs3 := l3_yes (l := 3) (p0 := p0) hb
            have hs4 : (l3 3 cn p0 5).1 = (l3 3 cn p0 4).1 + inN 3 (cn 4) := by rw [hs3]
            conv => whnf
            (refine join_plain ?_; conv => whnf)
            (repeat' (first | (refine And.intro (by (first | omega | assumption | (simp only [nadd_eq]; omega) | (simp [nadd_eq]; omega))) ?_; conv => whnf) | (refine arI64 (by omega) (by omega) ?_; conv => whnf) | (refine arU32 (by omega) (by omega) ?_; conv => whnf) | (refine arU8 (by omega) (by omega) ?_; conv => whnf)))
            refine dsplit (fun h1 => ?_) (fun h1 => absurd (show (0 : Int) < ((cn 4 : Nat) : Int) by omega) h1)
            conv => whnf
            (refine drawP_lazy (by rw [hP]; exact follows) 60 (by kernel_rfl) ?_; conv => whnf)
            repeat' (first | (refine And.intro (by first | omega | decide | (simp [nadd_eq]; omega)) ?_; conv => whnf) | (refine arI64 (by omega) (by omega) ?_; conv => whnf) | (refine And.intro ?_ ?_ <;> (conv => whnf)))
            all_goals (refine callD_auto hP (hin) ?_; conv => whnf); (refine ⟨⟨rfl, rfl, rfl, has_a, rfl, rfl⟩, ?_⟩; conv => whnf)
            repeat' (first | (refine And.intro (by first | omega | decide | (simp [nadd_eq]; omega)) ?_; conv => whnf) | (refine arI64 (by omega) (by omega) ?_; conv => whnf) | (refine And.intro ?_ ?_ <;> (conv => whnf)))
            all_goals
              refine arI64_to (m := (((l3 3 cn p0 5).1 : Nat) : Int)) (show (((l3 3 cn p0 4).1 : Nat) : Int) + ((inN 3 (cn 4) : Nat) : Int) = _ by rw [hs4]; omega) (by omega) (by omega) ?_
              conv => whnf
              refine arI64 (by omega) (by omega) ?_
              conv => whnf
              intro act aw hs
              obtain ⟨v, hs⟩ := sat_forget (k := 1) (j := 25) hs rfl rfl
              refine ⟨(5, fun j => if j = 16 then .int .i64 3 else if j = 18 then v else if j = 17 then .pointer none else if j = 18 then .pointer none else if j = 19 then .pointer none else V j), show 5 ≤ 8 by omega, show 8 - 5 < 8 - 4 by omega, ?_⟩
              conv => whnf
              refine satP_imp hs ?_
              refine imp_intro hA [0, 1, 2, 3, 4, 5, 6, 7] rfl rfl rfl regs_a ?_ rfl
              exact has_a
          | false =>
            have hb1 : ¬ 0 < cn 4 := fun hh => by have h2 : Nat.blt 0 (cn 4) = true := Nat.ble_eq_true_of_le hh; rw [h2] at hb; cases hb
            have hs3 := l3_no (l := 3) (p0 := p0) hb
            conv => whnf
            (refine join_plain ?_; conv => whnf)
            (repeat' (first | (refine And.intro (by (first | omega | assumption | (simp only [nadd_eq]; omega) | (simp [nadd_eq]; omega))) ?_; conv => whnf) | (refine arI64 (by omega) (by omega) ?_; conv => whnf) | (refine arU32 (by omega) (by omega) ?_; conv => whnf) | (refine arU8 (by omega) (by omega) ?_; conv => whnf)))
            refine dsplit (fun h1 => absurd (show (0 : Int) < ((cn 4 : Nat) : Int) from h1) (by omega)) (fun h1 => ?_)
            conv => whnf
            refine arI64 (by omega) (by omega) ?_
            conv => whnf
            intro act aw hs
            refine ⟨(5, V), show 5 ≤ 8 by omega, show 8 - 5 < 8 - 4 by omega, ?_⟩
            rw [hs3]
            conv => whnf
            refine satP_imp hs ?_
            refine imp_intro hA [0, 1, 2, 3, 4, 5, 6, 7] rfl rfl rfl regs_a ?_ rfl
            exact has_a
        · have hin := rInner3_spec (cn 5) ((l3 3 cn p0 5).1 : Int) (by have := hcn64 5; omega)
          have hMc := l3_le (l := 3) (p0 := p0) hcn64 5
          have hMd := l3_le (l := 3) (p0 := p0) hcn64 6
          cases hb : Nat.blt 0 (cn 5) with
          | true =>
            have hb1 : 0 < cn 5 := Nat.le_of_ble_eq_true hb
            have hs3 := l3_yes (l := 3) (p0 := p0) hb
            have hs4 : (l3 3 cn p0 6).1 = (l3 3 cn p0 5).1 + inN 3 (cn 5) := by rw [hs3]
            conv => whnf
            (refine join_plain ?_; conv => whnf)
            (repeat' (first | (refine And.intro (by (first | omega | assumption | (simp only [nadd_eq]; omega) | (simp [nadd_eq]; omega))) ?_; conv => whnf) | (refine arI64 (by omega) (by omega) ?_; conv => whnf) | (refine arU32 (by omega) (by omega) ?_; conv => whnf) | (refine arU8 (by omega) (by omega) ?_; conv => whnf)))
            refine dsplit (fun h1 => ?_) (fun h1 => absurd (show (0 : Int) < ((cn 5 : Nat) : Int) by omega) h1)
            conv => whnf
            (refine drawP_lazy (by rw [hP]; exact follows) 60 (by kernel_rfl) ?_; conv => whnf)
            repeat' (first | (refine And.intro (by first | omega | decide | (simp [nadd_eq]; omega)) ?_; conv => whnf) | (refine arI64 (by omega) (by omega) ?_; conv => whnf) | (refine And.intro ?_ ?_ <;> (conv => whnf)))
            all_goals (refine callD_auto hP (hin) ?_; conv => whnf); (refine ⟨⟨rfl, rfl, rfl, has_a, rfl, rfl⟩, ?_⟩; conv => whnf)
            repeat' (first | (refine And.intro (by first | omega | decide | (simp [nadd_eq]; omega)) ?_; conv => whnf) | (refine arI64 (by omega) (by omega) ?_; conv => whnf) | (refine And.intro ?_ ?_ <;> (conv => whnf)))
            all_goals
              refine arI64_to (m := (((l3 3 cn p0 6).1 : Nat) : Int)) (show (((l3 3 cn p0 5).1 : Nat) : Int) + ((inN 3 (cn 5) : Nat) : Int) = _ by rw [hs4]; omega) (by omega) (by omega) ?_
              conv => whnf
              refine arI64 (by omega) (by omega) ?_
              conv => whnf
              intro act aw hs
              obtain ⟨v, hs⟩ := sat_forget (k := 1) (j := 29) hs rfl rfl
              refine ⟨(6, fun j => if j = 20 then .int .i64 3 else if j = 22 then v else if j = 21 then .pointer none else if j = 22 then .pointer none else if j = 23 then .pointer none else V j), show 6 ≤ 8 by omega, show 8 - 6 < 8 - 5 by omega, ?_⟩
              conv => whnf
              refine satP_imp hs ?_
              refine imp_intro hA [0, 1, 2, 3, 4, 5, 6, 7] rfl rfl rfl regs_a ?_ rfl
              exact has_a
          | false =>
            have hb1 : ¬ 0 < cn 5 := fun hh => by have h2 : Nat.blt 0 (cn 5) = true := Nat.ble_eq_true_of_le hh; rw [h2] at hb; cases hb
            have hs3 := l3_no (l := 3) (p0 := p0) hb
            conv => whnf
            (refine join_plain ?_; conv => whnf)
            (repeat' (first | (refine And.intro (by (first | omega | assumption | (simp only [nadd_eq]; omega) | (simp [nadd_eq]; omega))) ?_; conv => whnf) | (refine arI64 (by omega) (by omega) ?_; conv => whnf) | (refine arU32 (by omega) (by omega) ?_; conv => whnf) | (refine arU8 (by omega) (by omega) ?_; conv => whnf)))
            refine dsplit (fun h1 => absurd (show (0 : Int) < ((cn 5 : Nat) : Int) from h1) (by omega)) (fun h1 => ?_)
            conv => whnf
            refine arI64 (by omega) (by omega) ?_
            conv => whnf
            intro act aw hs
            refine ⟨(6, V), show 6 ≤ 8 by omega, show 8 - 6 < 8 - 5 by omega, ?_⟩
            rw [hs3]
            conv => whnf
            refine satP_imp hs ?_
            refine imp_intro hA [0, 1, 2, 3, 4, 5, 6, 7] rfl rfl rfl regs_a ?_ rfl
            exact has_a
        · have hin := rInner3_spec (cn 6) ((l3 3 cn p0 6).1 : Int) (by have := hcn64 6; omega)
          have hMc := l3_le (l := 3) (p0 := p0) hcn64 6
          have hMd := l3_le (l := 3) (p0 := p0) hcn64 7
          cases hb : Nat.blt 0 (cn 6) with
          | true =>
            have hb1 : 0 < cn 6 := Nat.le_of_ble_eq_true hb
            have hs3 := l3_yes (l := 3) (p0 := p0) hb
            have hs4 : (l3 3 cn p0 7).1 = (l3 3 cn p0 6).1 + inN 3 (cn 6) := by rw [hs3]
            conv => whnf
            (refine join_plain ?_; conv => whnf)
            (repeat' (first | (refine And.intro (by (first | omega | assumption | (simp only [nadd_eq]; omega) | (simp [nadd_eq]; omega))) ?_; conv => whnf) | (refine arI64 (by omega) (by omega) ?_; conv => whnf) | (refine arU32 (by omega) (by omega) ?_; conv => whnf) | (refine arU8 (by omega) (by omega) ?_; conv => whnf)))
            refine dsplit (fun h1 => ?_) (fun h1 => absurd (show (0 : Int) < ((cn 6 : Nat) : Int) by omega) h1)
            conv => whnf
            (refine drawP_lazy (by rw [hP]; exact follows) 60 (by kernel_rfl) ?_; conv => whnf)
            repeat' (first | (refine And.intro (by first | omega | decide | (simp [nadd_eq]; omega)) ?_; conv => whnf) | (refine arI64 (by omega) (by omega) ?_; conv => whnf) | (refine And.intro ?_ ?_ <;> (conv => whnf)))
            all_goals (refine callD_auto hP (hin) ?_; conv => whnf); (refine ⟨⟨rfl, rfl, rfl, has_a, rfl, rfl⟩, ?_⟩; conv => whnf)
            repeat' (first | (refine And.intro (by first | omega | decide | (simp [nadd_eq]; omega)) ?_; conv => whnf) | (refine arI64 (by omega) (by omega) ?_; conv => whnf) | (refine And.intro ?_ ?_ <;> (conv => whnf)))
            all_goals
              refine arI64_to (m := (((l3 3 cn p0 7).1 : Nat) : Int)) (show (((l3 3 cn p0 6).1 : Nat) : Int) + ((inN 3 (cn 6) : Nat) : Int) = _ by rw [hs4]; omega) (by omega) (by omega) ?_
              conv => whnf
              refine arI64 (by omega) (by omega) ?_
              conv => whnf
              intro act aw hs
              obtain ⟨v, hs⟩ := sat_forget (k := 1) (j := 33) hs rfl rfl
              refine ⟨(7, fun j => if j = 24 then .int .i64 3 else if j = 26 then v else if j = 25 then .pointer none else if j = 26 then .pointer none else if j = 27 then .pointer none else V j), show 7 ≤ 8 by omega, show 8 - 7 < 8 - 6 by omega, ?_⟩
              conv => whnf
              refine satP_imp hs ?_
              refine imp_intro hA [0, 1, 2, 3, 4, 5, 6, 7] rfl rfl rfl regs_a ?_ rfl
              exact has_a
          | false =>
            have hb1 : ¬ 0 < cn 6 := fun hh => by have h2 : Nat.blt 0 (cn 6) = true := Nat.ble_eq_true_of_le hh; rw [h2] at hb; cases hb
            have hs3 := l3_no (l := 3) (p0 := p0) hb
            conv => whnf
            (refine join_plain ?_; conv => whnf)
            (repeat' (first | (refine And.intro (by (first | omega | assumption | (simp only [nadd_eq]; omega) | (simp [nadd_eq]; omega))) ?_; conv => whnf) | (refine arI64 (by omega) (by omega) ?_; conv => whnf) | (refine arU32 (by omega) (by omega) ?_; conv => whnf) | (refine arU8 (by omega) (by omega) ?_; conv => whnf)))
            refine dsplit (fun h1 => absurd (show (0 : Int) < ((cn 6 : Nat) : Int) from h1) (by omega)) (fun h1 => ?_)
            conv => whnf
            refine arI64 (by omega) (by omega) ?_
            conv => whnf
            intro act aw hs
            refine ⟨(7, V), show 7 ≤ 8 by omega, show 8 - 7 < 8 - 6 by omega, ?_⟩
            rw [hs3]
            conv => whnf
            refine satP_imp hs ?_
            refine imp_intro hA [0, 1, 2, 3, 4, 5, 6, 7] rfl rfl rfl regs_a ?_ rfl
            exact has_a
        · have hin := rInner3_spec (cn 7) ((l3 3 cn p0 7).1 : Int) (by have := hcn64 7; omega)
          have hMc := l3_le (l := 3) (p0 := p0) hcn64 7
          have hMd := l3_le (l := 3) (p0 := p0) hcn64 8
          cases hb : Nat.blt 0 (cn 7) with
          | true =>
            have hb1 : 0 < cn 7 := Nat.le_of_ble_eq_true hb
            have hs3 := l3_yes (l := 3) (p0 := p0) hb
            have hs4 : (l3 3 cn p0 8).1 = (l3 3 cn p0 7).1 + inN 3 (cn 7) := by rw [hs3]
            conv => whnf
            (refine join_plain ?_; conv => whnf)
            (repeat' (first | (refine And.intro (by (first | omega | assumption | (simp only [nadd_eq]; omega) | (simp [nadd_eq]; omega))) ?_; conv => whnf) | (refine arI64 (by omega) (by omega) ?_; conv => whnf) | (refine arU32 (by omega) (by omega) ?_; conv => whnf) | (refine arU8 (by omega) (by omega) ?_; conv => whnf)))
            refine dsplit (fun h1 => ?_) (fun h1 => absurd (show (0 : Int) < ((cn 7 : Nat) : Int) by omega) h1)
            conv => whnf
            (refine drawP_lazy (by rw [hP]; exact follows) 60 (by kernel_rfl) ?_; conv => whnf)
            repeat' (first | (refine And.intro (by first | omega | decide | (simp [nadd_eq]; omega)) ?_; conv => whnf) | (refine arI64 (by omega) (by omega) ?_; conv => whnf) | (refine And.intro ?_ ?_ <;> (conv => whnf)))
            all_goals (refine callD_auto hP (hin) ?_; conv => whnf); (refine ⟨⟨rfl, rfl, rfl, has_a, rfl, rfl⟩, ?_⟩; conv => whnf)
            repeat' (first | (refine And.intro (by first | omega | decide | (simp [nadd_eq]; omega)) ?_; conv => whnf) | (refine arI64 (by omega) (by omega) ?_; conv => whnf) | (refine And.intro ?_ ?_ <;> (conv => whnf)))
            all_goals
              refine arI64_to (m := (((l3 3 cn p0 8).1 : Nat) : Int)) (show (((l3 3 cn p0 7).1 : Nat) : Int) + ((inN 3 (cn 7) : Nat) : Int) = _ by rw [hs4]; omega) (by omega) (by omega) ?_
              conv => whnf
              refine arI64 (by omega) (by omega) ?_
              conv => whnf
              intro act aw hs
              obtain ⟨v, hs⟩ := sat_forget (k := 1) (j := 37) hs rfl rfl
              refine ⟨(8, fun j => if j = 28 then .int .i64 3 else if j = 30 then v else if j = 29 then .pointer none else if j = 30 then .pointer none else if j = 31 then .pointer none else V j), show 8 ≤ 8 by omega, show 8 - 8 < 8 - 7 by omega, ?_⟩
              conv => whnf
              refine satP_imp hs ?_
              refine imp_intro hA [0, 1, 2, 3, 4, 5, 6, 7] rfl rfl rfl regs_a ?_ rfl
              exact has_a
          | false =>
            have hb1 : ¬ 0 < cn 7 := fun hh => by have h2 : Nat.blt 0 (cn 7) = true := Nat.ble_eq_true_of_le hh; rw [h2] at hb; cases hb
            have hs3 := l3_no (l := 3) (p0 := p0) hb
            conv => whnf
            (refine join_plain ?_; conv => whnf)
            (repeat' (first | (refine And.intro (by (first | omega | assumption | (simp only [nadd_eq]; omega) | (simp [nadd_eq]; omega))) ?_; conv => whnf) | (refine arI64 (by omega) (by omega) ?_; conv => whnf) | (refine arU32 (by omega) (by omega) ?_; conv => whnf) | (refine arU8 (by omega) (by omega) ?_; conv => whnf)))
            refine dsplit (fun h1 => absurd (show (0 : Int) < ((cn 7 : Nat) : Int) from h1) (by omega)) (fun h1 => ?_)
            conv => whnf
            refine arI64 (by omega) (by omega) ?_
            conv => whnf
            intro act aw hs
            refine ⟨(8, V), show 8 ≤ 8 by omega, show 8 - 8 < 8 - 7 by omega, ?_⟩
            rw [hs3]
            conv => whnf
            refine satP_imp hs ?_
            refine imp_intro hA [0, 1, 2, 3, 4, 5, 6, 7] rfl rfl rfl regs_a ?_ rfl
            exact has_a
        · have hMc := l3_le (l := 3) (p0 := p0) hcn64 8
          conv => whnf
          refine arI64_to (m := (((l3 3 cn p0 8).1 : Nat) : Int)) (show (((l3 3 cn p0 8).1 : Nat) : Int) - 0 = _ by omega) (by omega) (by omega) ?_
          conv => whnf
          refine finP_forget 1 0 rfl rfl fun v0 => ?_
          refine finP_forget 1 39 rfl rfl fun v1 => ?_
          refine finP_forget 1 40 rfl rfl fun v2 => ?_
          refine finP_forget 1 41 rfl rfl fun v3 => ?_
          refine finP_forget 1 42 rfl rfl fun v4 => ?_
          refine finP_intro [0, 1] (.o (.l (.p 1 0 0 0))) [(1, some (.st (r16C (fun j => match j with | 0 => v0 | 1 => .int .i64 0 | 2 => .int .i64 bu | 3 => .int .i64 g | 4 => .pointer pa | 5 => .pointer pb | 6 => .pointer pc | 39 => v1 | 40 => v2 | 41 => v3 | 42 => v4 | j => V (j - 7)) ((l3 3 cn p0 8).1 : Int))))] 2 rfl ⟨_, rfl, rfl, by rw [hN]⟩ rfl rfl rfl ⟨rfl, trivial⟩ rfl
      · refine loop_ex (α := Nat × (Nat → Value)) (ds := []) (N := 8) (fun x => [(17, sInt .i64 (x.1 : Int)), (4, sInt .i64 ((l3 4 cn p0 x.1).1 : Int))]) []
          (fun x => [(1, some (.st [.p 2 0 0 0, .v (.int .i64 0), .v (.int .i64 bu), .v (.int .i64 g), .v (.pointer pa), .v (.pointer pb), .v (.pointer pc), .v (x.2 0), .v (x.2 1), .v (x.2 2), .v (x.2 3), .v (x.2 4), .v (x.2 5), .v (x.2 6), .v (x.2 7), .v (x.2 8), .v (x.2 9), .v (x.2 10), .v (x.2 11), .v (x.2 12), .v (x.2 13), .v (x.2 14), .v (x.2 15), .v (x.2 16), .v (x.2 17), .v (x.2 18), .v (x.2 19), .v (x.2 20), .v (x.2 21), .v (x.2 22), .v (x.2 23), .v (x.2 24), .v (x.2 25), .v (x.2 26), .v (x.2 27), .v (x.2 28), .v (x.2 29), .v (x.2 30), .v (x.2 31), .s 6 1 0 m 0, .s 7 1 0 m 0, .s 3 1 0 m 0, .s 4 1 0 m 0, .v (.int .i64 0)]))])
          (fun x => x.1 ≤ 8) (fun x => 8 - x.1) (0, V0) (Nat.zero_le _) ?_ fun x hx => ?_
        · conv => whnf
          refine imp_intro hA [0, 1, 2, 3, 4, 5, 6, 7] rfl rfl rfl regs_a ?_ rfl
          exact has_a
        obtain ⟨c, V⟩ := x
        replace hx : c ≤ 8 := hx
        rcases (show c = 0 ∨ c = 1 ∨ c = 2 ∨ c = 3 ∨ c = 4 ∨ c = 5 ∨ c = 6 ∨ c = 7 ∨ c = 8 by omega) with rfl | rfl | rfl | rfl | rfl | rfl | rfl | rfl | rfl
        · have hin := rInner4_spec (cn 0) ((l3 4 cn p0 0).1 : Int) (by have := hcn64 0; omega)
          have hMc := l3_le (l := 4) (p0 := p0) hcn64 0
          have hMd := l3_le (l := 4) (p0 := p0) hcn64 1
          cases hb : Nat.blt 0 (cn 0) with
          | true =>
            have hb1 : 0 < cn 0 := Nat.le_of_ble_eq_true hb
            have hs3 := l3_yes (l := 4) (p0 := p0) hb
            have hs4 : (l3 4 cn p0 1).1 = (l3 4 cn p0 0).1 + inN 4 (cn 0) := by rw [hs3]
            conv => whnf
            (refine join_plain ?_; conv => whnf)
            (repeat' (first | (refine And.intro (by (first | omega | assumption | (simp only [nadd_eq]; omega) | (simp [nadd_eq]; omega))) ?_; conv => whnf) | (refine arI64 (by omega) (by omega) ?_; conv => whnf) | (refine arU32 (by omega) (by omega) ?_; conv => whnf) | (refine arU8 (by omega) (by omega) ?_; conv => whnf)))
            refine dsplit (fun h1 => ?_) (fun h1 => absurd (show (0 : Int) < ((cn 0 : Nat) : Int) by omega) h1)
            conv => whnf
            (refine drawP_lazy (by rw [hP]; exact follows) 60 (by kernel_rfl) ?_; conv => whnf)
            repeat' (first | (refine And.intro (by first | omega | decide | (simp [nadd_eq]; omega)) ?_; conv => whnf) | (refine arI64 (by omega) (by omega) ?_; conv => whnf) | (refine And.intro ?_ ?_ <;> (conv => whnf)))
            all_goals (refine callD_auto hP (hin) ?_; conv => whnf); (refine ⟨⟨rfl, rfl, rfl, has_a, rfl, rfl⟩, ?_⟩; conv => whnf)
            repeat' (first | (refine And.intro (by first | omega | decide | (simp [nadd_eq]; omega)) ?_; conv => whnf) | (refine arI64 (by omega) (by omega) ?_; conv => whnf) | (refine And.intro ?_ ?_ <;> (conv => whnf)))
            all_goals
              refine arI64_to (m := (((l3 4 cn p0 1).1 : Nat) : Int)) (show (((l3 4 cn p0 0).1 : Nat) : Int) + ((inN 4 (cn 0) : Nat) : Int) = _ by rw [hs4]; omega) (by omega) (by omega) ?_
              conv => whnf
              refine arI64 (by omega) (by omega) ?_
              conv => whnf
              intro act aw hs
              obtain ⟨v, hs⟩ := sat_forget (k := 1) (j := 10) hs rfl rfl
              refine ⟨(1, fun j => if j = 0 then .int .i64 4 else if j = 3 then v else if j = 1 then .pointer none else if j = 2 then .pointer none else if j = 3 then .pointer none else V j), show 1 ≤ 8 by omega, show 8 - 1 < 8 - 0 by omega, ?_⟩
              conv => whnf
              refine satP_imp hs ?_
              refine imp_intro hA [0, 1, 2, 3, 4, 5, 6, 7] rfl rfl rfl regs_a ?_ rfl
              exact has_a
          | false =>
            have hb1 : ¬ 0 < cn 0 := fun hh => by have h2 : Nat.blt 0 (cn 0) = true := Nat.ble_eq_true_of_le hh; rw [h2] at hb; cases hb
            have hs3 := l3_no (l := 4) (p0 := p0) hb
            conv => whnf
            (refine join_plain ?_; conv => whnf)
            (repeat' (first | (refine And.intro (by (first | omega | assumption | (simp only [nadd_eq]; omega) | (simp [nadd_eq]; omega))) ?_; conv => whnf) | (refine arI64 (by omega) (by omega) ?_; conv => whnf) | (refine arU32 (by omega) (by omega) ?_; conv => whnf) | (refine arU8 (by omega) (by omega) ?_; conv => whnf)))
            refine dsplit (fun h1 => absurd (show (0 : Int) < ((cn 0 : Nat) : Int) from h1) (by omega)) (fun h1 => ?_)
            conv => whnf
            refine arI64 (by omega) (by omega) ?_
            conv => whnf
            intro act aw hs
            refine ⟨(1, V), show 1 ≤ 8 by omega, show 8 - 1 < 8 - 0 by omega, ?_⟩
            rw [hs3]
            conv => whnf
            refine satP_imp hs ?_
            refine imp_intro hA [0, 1, 2, 3, 4, 5, 6, 7] rfl rfl rfl regs_a ?_ rfl
            exact has_a
        · have hin := rInner4_spec (cn 1) ((l3 4 cn p0 1).1 : Int) (by have := hcn64 1; omega)
          have hMc := l3_le (l := 4) (p0 := p0) hcn64 1
          have hMd := l3_le (l := 4) (p0 := p0) hcn64 2
          cases hb : Nat.blt 0 (cn 1) with
          | true =>
            have hb1 : 0 < cn 1 := Nat.le_of_ble_eq_true hb
            have hs3 := l3_yes (l := 4) (p0 := p0) hb
            have hs4 : (l3 4 cn p0 2).1 = (l3 4 cn p0 1).1 + inN 4 (cn 1) := by rw [hs3]
            conv => whnf
            (refine join_plain ?_; conv => whnf)
            (repeat' (first | (refine And.intro (by (first | omega | assumption | (simp only [nadd_eq]; omega) | (simp [nadd_eq]; omega))) ?_; conv => whnf) | (refine arI64 (by omega) (by omega) ?_; conv => whnf) | (refine arU32 (by omega) (by omega) ?_; conv => whnf) | (refine arU8 (by omega) (by omega) ?_; conv => whnf)))
            refine dsplit (fun h1 => ?_) (fun h1 => absurd (show (0 : Int) < ((cn 1 : Nat) : Int) by omega) h1)
            conv => whnf
            (refine drawP_lazy (by rw [hP]; exact follows) 60 (by kernel_rfl) ?_; conv => whnf)
            repeat' (first | (refine And.intro (by first | omega | decide | (simp [nadd_eq]; omega)) ?_; conv => whnf) | (refine arI64 (by omega) (by omega) ?_; conv => whnf) | (refine And.intro ?_ ?_ <;> (conv => whnf)))
            all_goals (refine callD_auto hP (hin) ?_; conv => whnf); (refine ⟨⟨rfl, rfl, rfl, has_a, rfl, rfl⟩, ?_⟩; conv => whnf)
            repeat' (first | (refine And.intro (by first | omega | decide | (simp [nadd_eq]; omega)) ?_; conv => whnf) | (refine arI64 (by omega) (by omega) ?_; conv => whnf) | (refine And.intro ?_ ?_ <;> (conv => whnf)))
            all_goals
              refine arI64_to (m := (((l3 4 cn p0 2).1 : Nat) : Int)) (show (((l3 4 cn p0 1).1 : Nat) : Int) + ((inN 4 (cn 1) : Nat) : Int) = _ by rw [hs4]; omega) (by omega) (by omega) ?_
              conv => whnf
              refine arI64 (by omega) (by omega) ?_
              conv => whnf
              intro act aw hs
              obtain ⟨v, hs⟩ := sat_forget (k := 1) (j := 14) hs rfl rfl
              refine ⟨(2, fun j => if j = 4 then .int .i64 4 else if j = 7 then v else if j = 5 then .pointer none else if j = 6 then .pointer none else if j = 7 then .pointer none else V j), show 2 ≤ 8 by omega, show 8 - 2 < 8 - 1 by omega, ?_⟩
              conv => whnf
              refine satP_imp hs ?_
              refine imp_intro hA [0, 1, 2, 3, 4, 5, 6, 7] rfl rfl rfl regs_a ?_ rfl
              exact has_a
          | false =>
            have hb1 : ¬ 0 < cn 1 := fun hh => by have h2 : Nat.blt 0 (cn 1) = true := Nat.ble_eq_true_of_le hh; rw [h2] at hb; cases hb
            have hs3 := l3_no (l := 4) (p0 := p0) hb
            conv => whnf
            (refine join_plain ?_; conv => whnf)
            (repeat' (first | (refine And.intro (by (first | omega | assumption | (simp only [nadd_eq]; omega) | (simp [nadd_eq]; omega))) ?_; conv => whnf) | (refine arI64 (by omega) (by omega) ?_; conv => whnf) | (refine arU32 (by omega) (by omega) ?_; conv => whnf) | (refine arU8 (by omega) (by omega) ?_; conv => whnf)))
            refine dsplit (fun h1 => absurd (show (0 : Int) < ((cn 1 : Nat) : Int) from h1) (by omega)) (fun h1 => ?_)
            conv => whnf
            refine arI64 (by omega) (by omega) ?_
            conv => whnf
            intro act aw hs
            refine ⟨(2, V), show 2 ≤ 8 by omega, show 8 - 2 < 8 - 1 by omega, ?_⟩
            rw [hs3]
            conv => whnf
            refine satP_imp hs ?_
            refine imp_intro hA [0, 1, 2, 3, 4, 5, 6, 7] rfl rfl rfl regs_a ?_ rfl
            exact has_a
        · have hin := rInner4_spec (cn 2) ((l3 4 cn p0 2).1 : Int) (by have := hcn64 2; omega)
          have hMc := l3_le (l := 4) (p0 := p0) hcn64 2
          have hMd := l3_le (l := 4) (p0 := p0) hcn64 3
          cases hb : Nat.blt 0 (cn 2) with
          | true =>
            have hb1 : 0 < cn 2 := Nat.le_of_ble_eq_true hb
            have hs3 := l3_yes (l := 4) (p0 := p0) hb
            have hs4 : (l3 4 cn p0 3).1 = (l3 4 cn p0 2).1 + inN 4 (cn 2) := by rw [hs3]
            conv => whnf
            (refine join_plain ?_; conv => whnf)
            (repeat' (first | (refine And.intro (by (first | omega | assumption | (simp only [nadd_eq]; omega) | (simp [nadd_eq]; omega))) ?_; conv => whnf) | (refine arI64 (by omega) (by omega) ?_; conv => whnf) | (refine arU32 (by omega) (by omega) ?_; conv => whnf) | (refine arU8 (by omega) (by omega) ?_; conv => whnf)))
            refine dsplit (fun h1 => ?_) (fun h1 => absurd (show (0 : Int) < ((cn 2 : Nat) : Int) by omega) h1)
            conv => whnf
            (refine drawP_lazy (by rw [hP]; exact follows) 60 (by kernel_rfl) ?_; conv => whnf)
            repeat' (first | (refine And.intro (by first | omega | decide | (simp [nadd_eq]; omega)) ?_; conv => whnf) | (refine arI64 (by omega) (by omega) ?_; conv => whnf) | (refine And.intro ?_ ?_ <;> (conv => whnf)))
            all_goals (refine callD_auto hP (hin) ?_; conv => whnf); (refine ⟨⟨rfl, rfl, rfl, has_a, rfl, rfl⟩, ?_⟩; conv => whnf)
            repeat' (first | (refine And.intro (by first | omega | decide | (simp [nadd_eq]; omega)) ?_; conv => whnf) | (refine arI64 (by omega) (by omega) ?_; conv => whnf) | (refine And.intro ?_ ?_ <;> (conv => whnf)))
            all_goals
              refine arI64_to (m := (((l3 4 cn p0 3).1 : Nat) : Int)) (show (((l3 4 cn p0 2).1 : Nat) : Int) + ((inN 4 (cn 2) : Nat) : Int) = _ by rw [hs4]; omega) (by omega) (by omega) ?_
              conv => whnf
              refine arI64 (by omega) (by omega) ?_
              conv => whnf
              intro act aw hs
              obtain ⟨v, hs⟩ := sat_forget (k := 1) (j := 18) hs rfl rfl
              refine ⟨(3, fun j => if j = 8 then .int .i64 4 else if j = 11 then v else if j = 9 then .pointer none else if j = 10 then .pointer none else if j = 11 then .pointer none else V j), show 3 ≤ 8 by omega, show 8 - 3 < 8 - 2 by omega, ?_⟩
              conv => whnf
              refine satP_imp hs ?_
              refine imp_intro hA [0, 1, 2, 3, 4, 5, 6, 7] rfl rfl rfl regs_a ?_ rfl
              exact has_a
          | false =>
            have hb1 : ¬ 0 < cn 2 := fun hh => by have h2 : Nat.blt 0 (cn 2) = true := Nat.ble_eq_true_of_le hh; rw [h2] at hb; cases hb
            have hs3 := l3_no (l := 4) (p0 := p0) hb
            conv => whnf
            (refine join_plain ?_; conv => whnf)
            (repeat' (first | (refine And.intro (by (first | omega | assumption | (simp only [nadd_eq]; omega) | (simp [nadd_eq]; omega))) ?_; conv => whnf) | (refine arI64 (by omega) (by omega) ?_; conv => whnf) | (refine arU32 (by omega) (by omega) ?_; conv => whnf) | (refine arU8 (by omega) (by omega) ?_; conv => whnf)))
            refine dsplit (fun h1 => absurd (show (0 : Int) < ((cn 2 : Nat) : Int) from h1) (by omega)) (fun h1 => ?_)
            conv => whnf
            refine arI64 (by omega) (by omega) ?_
            conv => whnf
            intro act aw hs
            refine ⟨(3, V), show 3 ≤ 8 by omega, show 8 - 3 < 8 - 2 by omega, ?_⟩
            rw [hs3]
            conv => whnf
            refine satP_imp hs ?_
            refine imp_intro hA [0, 1, 2, 3, 4, 5, 6, 7] rfl rfl rfl regs_a ?_ rfl
            exact has_a
        · have hin := rInner4_spec (cn 3) ((l3 4 cn p0 3).1 : Int) (by have := hcn64 3; omega)
          have hMc := l3_le (l := 4) (p0 := p0) hcn64 3
          have hMd := l3_le (l := 4) (p0 := p0) hcn64 4
          cases hb : Nat.blt 0 (cn 3) with
          | true =>
            have hb1 : 0 < cn 3 := Nat.le_of_ble_eq_true hb
            have hs3 := l3_yes (l := 4) (p0 := p0) hb
            have hs4 : (l3 4 cn p0 4).1 = (l3 4 cn p0 3).1 + inN 4 (cn 3) := by rw [hs3]
            conv => whnf
            (refine join_plain ?_; conv => whnf)
            (repeat' (first | (refine And.intro (by (first | omega | assumption | (simp only [nadd_eq]; omega) | (simp [nadd_eq]; omega))) ?_; conv => whnf) | (refine arI64 (by omega) (by omega) ?_; conv => whnf) | (refine arU32 (by omega) (by omega) ?_; conv => whnf) | (refine arU8 (by omega) (by omega) ?_; conv => whnf)))
            refine dsplit (fun h1 => ?_) (fun h1 => absurd (show (0 : Int) < ((cn 3 : Nat) : Int) by omega) h1)
            conv => whnf
            (refine drawP_lazy (by rw [hP]; exact follows) 60 (by kernel_rfl) ?_; conv => whnf)
            repeat' (first | (refine And.intro (by first | omega | decide | (simp [nadd_eq]; omega)) ?_; conv => whnf) | (refine arI64 (by omega) (by omega) ?_; conv => whnf) | (refine And.intro ?_ ?_ <;> (conv => whnf)))
            all_goals (refine callD_auto hP (hin) ?_; conv => whnf); (refine ⟨⟨rfl, rfl, rfl, has_a, rfl, rfl⟩, ?_⟩; conv => whnf)
            repeat' (first | (refine And.intro (by first | omega | decide | (simp [nadd_eq]; omega)) ?_; conv => whnf) | (refine arI64 (by omega) (by omega) ?_; conv => whnf) | (refine And.intro ?_ ?_ <;> (conv => whnf)))
            all_goals
              refine arI64_to (m := (((l3 4 cn p0 4).1 : Nat) : Int)) (show (((l3 4 cn p0 3).1 : Nat) : Int) + ((inN 4 (cn 3) : Nat) : Int) = _ by rw [hs4]; omega) (by omega) (by omega) ?_
              conv => whnf
              refine arI64 (by omega) (by omega) ?_
              conv => whnf
              intro act aw hs
              obtain ⟨v, hs⟩ := sat_forget (k := 1) (j := 22) hs rfl rfl
              refine ⟨(4, fun j => if j = 12 then .int .i64 4 else if j = 15 then v else if j = 13 then .pointer none else if j = 14 then .pointer none else if j = 15 then .pointer none else V j), show 4 ≤ 8 by omega, show 8 - 4 < 8 - 3 by omega, ?_⟩
              conv => whnf
              refine satP_imp hs ?_
              refine imp_intro hA [0, 1, 2, 3, 4, 5, 6, 7] rfl rfl rfl regs_a ?_ rfl
              exact has_a
          | false =>
            have hb1 : ¬ 0 < cn 3 := fun hh => by have h2 : Nat.blt 0 (cn 3) = true := Nat.ble_eq_true_of_le hh; rw [h2] at hb; cases hb
            have hs3 := l3_no (l := 4) (p0 := p0) hb
            conv => whnf
            (refine join_plain ?_; conv => whnf)
            (repeat' (first | (refine And.intro (by (first | omega | assumption | (simp only [nadd_eq]; omega) | (simp [nadd_eq]; omega))) ?_; conv => whnf) | (refine arI64 (by omega) (by omega) ?_; conv => whnf) | (refine arU32 (by omega) (by omega) ?_; conv => whnf) | (refine arU8 (by omega) (by omega) ?_; conv => whnf)))
            refine dsplit (fun h1 => absurd (show (0 : Int) < ((cn 3 : Nat) : Int) from h1) (by omega)) (fun h1 => ?_)
            conv => whnf
            refine arI64 (by omega) (by omega) ?_
            conv => whnf
            intro act aw hs
            refine ⟨(4, V), show 4 ≤ 8 by omega, show 8 - 4 < 8 - 3 by omega, ?_⟩
            rw [hs3]
            conv => whnf
            refine satP_imp hs ?_
            refine imp_intro hA [0, 1, 2, 3, 4, 5, 6, 7] rfl rfl rfl regs_a ?_ rfl
            exact has_a
        · have hin := rInner4_spec (cn 4) ((l3 4 cn p0 4).1 : Int) (by have := hcn64 4; omega)
          have hMc := l3_le (l := 4) (p0 := p0) hcn64 4
          have hMd := l3_le (l := 4) (p0 := p0) hcn64 5
          cases hb : Nat.blt 0 (cn 4) with
          | true =>
            have hb1 : 0 < cn 4 := Nat.le_of_ble_eq_true hb
            have hs3 := l3_yes (l := 4) (p0 := p0) hb
            have hs4 : (l3 4 cn p0 5).1 = (l3 4 cn p0 4).1 + inN 4 (cn 4) := by rw [hs3]
            conv => whnf
            (refine join_plain ?_; conv => whnf)
            (repeat' (first | (refine And.intro (by (first | omega | assumption | (simp only [nadd_eq]; omega) | (simp [nadd_eq]; omega))) ?_; conv => whnf) | (refine arI64 (by omega) (by omega) ?_; conv => whnf) | (refine arU32 (by omega) (by omega) ?_; conv => whnf) | (refine arU8 (by omega) (by omega) ?_; conv => whnf)))
            refine dsplit (fun h1 => ?_) (fun h1 => absurd (show (0 : Int) < ((cn 4 : Nat) : Int) by omega) h1)
            conv => whnf
            (refine drawP_lazy (by rw [hP]; exact follows) 60 (by kernel_rfl) ?_; conv => whnf)
            repeat' (first | (refine And.intro (by first | omega | decide | (simp [nadd_eq]; omega)) ?_; conv => whnf) | (refine arI64 (by omega) (by omega) ?_; conv => whnf) | (refine And.intro ?_ ?_ <;> (conv => whnf)))
            all_goals (refine callD_auto hP (hin) ?_; conv => whnf); (refine ⟨⟨rfl, rfl, rfl, has_a, rfl, rfl⟩, ?_⟩; conv => whnf)
            repeat' (first | (refine And.intro (by first | omega | decide | (simp [nadd_eq]; omega)) ?_; conv => whnf) | (refine arI64 (by omega) (by omega) ?_; conv => whnf) | (refine And.intro ?_ ?_ <;> (conv => whnf)))
            all_goals
              refine arI64_to (m := (((l3 4 cn p0 5).1 : Nat) : Int)) (show (((l3 4 cn p0 4).1 : Nat) : Int) + ((inN 4 (cn 4) : Nat) : Int) = _ by rw [hs4]; omega) (by omega) (by omega) ?_
              conv => whnf
              refine arI64 (by omega) (by omega) ?_
              conv => whnf
              intro act aw hs
              obtain ⟨v, hs⟩ := sat_forget (k := 1) (j := 26) hs rfl rfl
              refine ⟨(5, fun j => if j = 16 then .int .i64 4 else if j = 19 then v else if j = 17 then .pointer none else if j = 18 then .pointer none else if j = 19 then .pointer none else V j), show 5 ≤ 8 by omega, show 8 - 5 < 8 - 4 by omega, ?_⟩
              conv => whnf
              refine satP_imp hs ?_
              refine imp_intro hA [0, 1, 2, 3, 4, 5, 6, 7] rfl rfl rfl regs_a ?_ rfl
              exact has_a
          | false =>
            have hb1 : ¬ 0 < cn 4 := fun hh => by have h2 : Nat.blt 0 (cn 4) = true := Nat.ble_eq_true_of_le hh; rw [h2] at hb; cases hb
            have hs3 := l3_no (l := 4) (p0 := p0) hb
            conv => whnf
            (refine join_plain ?_; conv => whnf)
            (repeat' (first | (refine And.intro (by (first | omega | assumption | (simp only [nadd_eq]; omega) | (simp [nadd_eq]; omega))) ?_; conv => whnf) | (refine arI64 (by omega) (by omega) ?_; conv => whnf) | (refine arU32 (by omega) (by omega) ?_; conv => whnf) | (refine arU8 (by omega) (by omega) ?_; conv => whnf)))
            refine dsplit (fun h1 => absurd (show (0 : Int) < ((cn 4 : Nat) : Int) from h1) (by omega)) (fun h1 => ?_)
            conv => whnf
            refine arI64 (by omega) (by omega) ?_
            conv => whnf
            intro act aw hs
            refine ⟨(5, V), show 5 ≤ 8 by omega, show 8 - 5 < 8 - 4 by omega, ?_⟩
            rw [hs3]
            conv => whnf
            refine satP_imp hs ?_
            refine imp_intro hA [0, 1, 2, 3, 4, 5, 6, 7] rfl rfl rfl regs_a ?_ rfl
            exact has_a
        · have hin := rInner4_spec (cn 5) ((l3 4 cn p0 5).1 : Int) (by have := hcn64 5; omega)
          have hMc := l3_le (l := 4) (p0 := p0) hcn64 5
          have hMd := l3_le (l := 4) (p0 := p0) hcn64 6
          cases hb : Nat.blt 0 (cn 5) with
          | true =>
            have hb1 : 0 < cn 5 := Nat.le_of_ble_eq_true hb
            have hs3 := l3_yes (l := 4) (p0 := p0) hb
            have hs4 : (l3 4 cn p0 6).1 = (l3 4 cn p0 5).1 + inN 4 (cn 5) := by rw [hs3]
            conv => whnf
            (refine join_plain ?_; conv => whnf)
            (repeat' (first | (refine And.intro (by (first | omega | assumption | (simp only [nadd_eq]; omega) | (simp [nadd_eq]; omega))) ?_; conv => whnf) | (refine arI64 (by omega) (by omega) ?_; conv => whnf) | (refine arU32 (by omega) (by omega) ?_; conv => whnf) | (refine arU8 (by omega) (by omega) ?_; conv => whnf)))
            refine dsplit (fun h1 => ?_) (fun h1 => absurd (show (0 : Int) < ((cn 5 : Nat) : Int) by omega) h1)
            conv => whnf
            (refine drawP_lazy (by rw [hP]; exact follows) 60 (by kernel_rfl) ?_; conv => whnf)
            repeat' (first | (refine And.intro (by first | omega | decide | (simp [nadd_eq]; omega)) ?_; conv => whnf) | (refine arI64 (by omega) (by omega) ?_; conv => whnf) | (refine And.intro ?_ ?_ <;> (conv => whnf)))
            all_goals (refine callD_auto hP (hin) ?_; conv => whnf); (refine ⟨⟨rfl, rfl, rfl, has_a, rfl, rfl⟩, ?_⟩; conv => whnf)
            repeat' (first | (refine And.intro (by first | omega | decide | (simp [nadd_eq]; omega)) ?_; conv => whnf) | (refine arI64 (by omega) (by omega) ?_; conv => whnf) | (refine And.intro ?_ ?_ <;> (conv => whnf)))
            all_goals
              refine arI64_to (m := (((l3 4 cn p0 6).1 : Nat) : Int)) (show (((l3 4 cn p0 5).1 : Nat) : Int) + ((inN 4 (cn 5) : Nat) : Int) = _ by rw [hs4]; omega) (by omega) (by omega) ?_
              conv => whnf
              refine arI64 (by omega) (by omega) ?_
              conv => whnf
              intro act aw hs
              obtain ⟨v, hs⟩ := sat_forget (k := 1) (j := 30) hs rfl rfl
              refine ⟨(6, fun j => if j = 20 then .int .i64 4 else if j = 23 then v else if j = 21 then .pointer none else if j = 22 then .pointer none else if j = 23 then .pointer none else V j), show 6 ≤ 8 by omega, show 8 - 6 < 8 - 5 by omega, ?_⟩
              conv => whnf
              refine satP_imp hs ?_
              refine imp_intro hA [0, 1, 2, 3, 4, 5, 6, 7] rfl rfl rfl regs_a ?_ rfl
              exact has_a
          | false =>
            have hb1 : ¬ 0 < cn 5 := fun hh => by have h2 : Nat.blt 0 (cn 5) = true := Nat.ble_eq_true_of_le hh; rw [h2] at hb; cases hb
            have hs3 := l3_no (l := 4) (p0 := p0) hb
            conv => whnf
            (refine join_plain ?_; conv => whnf)
            (repeat' (first | (refine And.intro (by (first | omega | assumption | (simp only [nadd_eq]; omega) | (simp [nadd_eq]; omega))) ?_; conv => whnf) | (refine arI64 (by omega) (by omega) ?_; conv => whnf) | (refine arU32 (by omega) (by omega) ?_; conv => whnf) | (refine arU8 (by omega) (by omega) ?_; conv => whnf)))
            refine dsplit (fun h1 => absurd (show (0 : Int) < ((cn 5 : Nat) : Int) from h1) (by omega)) (fun h1 => ?_)
            conv => whnf
            refine arI64 (by omega) (by omega) ?_
            conv => whnf
            intro act aw hs
            refine ⟨(6, V), show 6 ≤ 8 by omega, show 8 - 6 < 8 - 5 by omega, ?_⟩
            rw [hs3]
            conv => whnf
            refine satP_imp hs ?_
            refine imp_intro hA [0, 1, 2, 3, 4, 5, 6, 7] rfl rfl rfl regs_a ?_ rfl
            exact has_a
        · have hin := rInner4_spec (cn 6) ((l3 4 cn p0 6).1 : Int) (by have := hcn64 6; omega)
          have hMc := l3_le (l := 4) (p0 := p0) hcn64 6
          have hMd := l3_le (l := 4) (p0 := p0) hcn64 7
          cases hb : Nat.blt 0 (cn 6) with
          | true =>
            have hb1 : 0 < cn 6 := Nat.le_of_ble_eq_true hb
            have hs3 := l3_yes (l := 4) (p0 := p0) hb
            have hs4 : (l3 4 cn p0 7).1 = (l3 4 cn p0 6).1 + inN 4 (cn 6) := by rw [hs3]
            conv => whnf
            (refine join_plain ?_; conv => whnf)
            (repeat' (first | (refine And.intro (by (first | omega | assumption | (simp only [nadd_eq]; omega) | (simp [nadd_eq]; omega))) ?_; conv => whnf) | (refine arI64 (by omega) (by omega) ?_; conv => whnf) | (refine arU32 (by omega) (by omega) ?_; conv => whnf) | (refine arU8 (by omega) (by omega) ?_; conv => whnf)))
            refine dsplit (fun h1 => ?_) (fun h1 => absurd (show (0 : Int) < ((cn 6 : Nat) : Int) by omega) h1)
            conv => whnf
            (refine drawP_lazy (by rw [hP]; exact follows) 60 (by kernel_rfl) ?_; conv => whnf)
            repeat' (first | (refine And.intro (by first | omega | decide | (simp [nadd_eq]; omega)) ?_; conv => whnf) | (refine arI64 (by omega) (by omega) ?_; conv => whnf) | (refine And.intro ?_ ?_ <;> (conv => whnf)))
            all_goals (refine callD_auto hP (hin) ?_; conv => whnf); (refine ⟨⟨rfl, rfl, rfl, has_a, rfl, rfl⟩, ?_⟩; conv => whnf)
            repeat' (first | (refine And.intro (by first | omega | decide | (simp [nadd_eq]; omega)) ?_; conv => whnf) | (refine arI64 (by omega) (by omega) ?_; conv => whnf) | (refine And.intro ?_ ?_ <;> (conv => whnf)))
            all_goals
              refine arI64_to (m := (((l3 4 cn p0 7).1 : Nat) : Int)) (show (((l3 4 cn p0 6).1 : Nat) : Int) + ((inN 4 (cn 6) : Nat) : Int) = _ by rw [hs4]; omega) (by omega) (by omega) ?_
              conv => whnf
              refine arI64 (by omega) (by omega) ?_
              conv => whnf
              intro act aw hs
              obtain ⟨v, hs⟩ := sat_forget (k := 1) (j := 34) hs rfl rfl
              refine ⟨(7, fun j => if j = 24 then .int .i64 4 else if j = 27 then v else if j = 25 then .pointer none else if j = 26 then .pointer none else if j = 27 then .pointer none else V j), show 7 ≤ 8 by omega, show 8 - 7 < 8 - 6 by omega, ?_⟩
              conv => whnf
              refine satP_imp hs ?_
              refine imp_intro hA [0, 1, 2, 3, 4, 5, 6, 7] rfl rfl rfl regs_a ?_ rfl
              exact has_a
          | false =>
            have hb1 : ¬ 0 < cn 6 := fun hh => by have h2 : Nat.blt 0 (cn 6) = true := Nat.ble_eq_true_of_le hh; rw [h2] at hb; cases hb
            have hs3 := l3_no (l := 4) (p0 := p0) hb
            conv => whnf
            (refine join_plain ?_; conv => whnf)
            (repeat' (first | (refine And.intro (by (first | omega | assumption | (simp only [nadd_eq]; omega) | (simp [nadd_eq]; omega))) ?_; conv => whnf) | (refine arI64 (by omega) (by omega) ?_; conv => whnf) | (refine arU32 (by omega) (by omega) ?_; conv => whnf) | (refine arU8 (by omega) (by omega) ?_; conv => whnf)))
            refine dsplit (fun h1 => absurd (show (0 : Int) < ((cn 6 : Nat) : Int) from h1) (by omega)) (fun h1 => ?_)
            conv => whnf
            refine arI64 (by omega) (by omega) ?_
            conv => whnf
            intro act aw hs
            refine ⟨(7, V), show 7 ≤ 8 by omega, show 8 - 7 < 8 - 6 by omega, ?_⟩
            rw [hs3]
            conv => whnf
            refine satP_imp hs ?_
            refine imp_intro hA [0, 1, 2, 3, 4, 5, 6, 7] rfl rfl rfl regs_a ?_ rfl
            exact has_a
        · have hin := rInner4_spec (cn 7) ((l3 4 cn p0 7).1 : Int) (by have := hcn64 7; omega)
          have hMc := l3_le (l := 4) (p0 := p0) hcn64 7
          have hMd := l3_le (l := 4) (p0 := p0) hcn64 8
          cases hb : Nat.blt 0 (cn 7) with
          | true =>
            have hb1 : 0 < cn 7 := Nat.le_of_ble_eq_true hb
            have hs3 := l3_yes (l := 4) (p0 := p0) hb
            have hs4 : (l3 4 cn p0 8).1 = (l3 4 cn p0 7).1 + inN 4 (cn 7) := by rw [hs3]
            conv => whnf
            (refine join_plain ?_; conv => whnf)
            (repeat' (first | (refine And.intro (by (first | omega | assumption | (simp only [nadd_eq]; omega) | (simp [nadd_eq]; omega))) ?_; conv => whnf) | (refine arI64 (by omega) (by omega) ?_; conv => whnf) | (refine arU32 (by omega) (by omega) ?_; conv => whnf) | (refine arU8 (by omega) (by omega) ?_; conv => whnf)))
            refine dsplit (fun h1 => ?_) (fun h1 => absurd (show (0 : Int) < ((cn 7 : Nat) : Int) by omega) h1)
            conv => whnf
            (refine drawP_lazy (by rw [hP]; exact follows) 60 (by kernel_rfl) ?_; conv => whnf)
            repeat' (first | (refine And.intro (by first | omega | decide | (simp [nadd_eq]; omega)) ?_; conv => whnf) | (refine arI64 (by omega) (by omega) ?_; conv => whnf) | (refine And.intro ?_ ?_ <;> (conv => whnf)))
            all_goals (refine callD_auto hP (hin) ?_; conv => whnf); (refine ⟨⟨rfl, rfl, rfl, has_a, rfl, rfl⟩, ?_⟩; conv => whnf)
            repeat' (first | (refine And.intro (by first | omega | decide | (simp [nadd_eq]; omega)) ?_; conv => whnf) | (refine arI64 (by omega) (by omega) ?_; conv => whnf) | (refine And.intro ?_ ?_ <;> (conv => whnf)))
            all_goals
              refine arI64_to (m := (((l3 4 cn p0 8).1 : Nat) : Int)) (show (((l3 4 cn p0 7).1 : Nat) : Int) + ((inN 4 (cn 7) : Nat) : Int) = _ by rw [hs4]; omega) (by omega) (by omega) ?_
              conv => whnf
              refine arI64 (by omega) (by omega) ?_
              conv => whnf
              intro act aw hs
              obtain ⟨v, hs⟩ := sat_forget (k := 1) (j := 38) hs rfl rfl
              refine ⟨(8, fun j => if j = 28 then .int .i64 4 else if j = 31 then v else if j = 29 then .pointer none else if j = 30 then .pointer none else if j = 31 then .pointer none else V j), show 8 ≤ 8 by omega, show 8 - 8 < 8 - 7 by omega, ?_⟩
              conv => whnf
              refine satP_imp hs ?_
              refine imp_intro hA [0, 1, 2, 3, 4, 5, 6, 7] rfl rfl rfl regs_a ?_ rfl
              exact has_a
          | false =>
            have hb1 : ¬ 0 < cn 7 := fun hh => by have h2 : Nat.blt 0 (cn 7) = true := Nat.ble_eq_true_of_le hh; rw [h2] at hb; cases hb
            have hs3 := l3_no (l := 4) (p0 := p0) hb
            conv => whnf
            (refine join_plain ?_; conv => whnf)
            (repeat' (first | (refine And.intro (by (first | omega | assumption | (simp only [nadd_eq]; omega) | (simp [nadd_eq]; omega))) ?_; conv => whnf) | (refine arI64 (by omega) (by omega) ?_; conv => whnf) | (refine arU32 (by omega) (by omega) ?_; conv => whnf) | (refine arU8 (by omega) (by omega) ?_; conv => whnf)))
            refine dsplit (fun h1 => absurd (show (0 : Int) < ((cn 7 : Nat) : Int) from h1) (by omega)) (fun h1 => ?_)
            conv => whnf
            refine arI64 (by omega) (by omega) ?_
            conv => whnf
            intro act aw hs
            refine ⟨(8, V), show 8 ≤ 8 by omega, show 8 - 8 < 8 - 7 by omega, ?_⟩
            rw [hs3]
            conv => whnf
            refine satP_imp hs ?_
            refine imp_intro hA [0, 1, 2, 3, 4, 5, 6, 7] rfl rfl rfl regs_a ?_ rfl
            exact has_a
        · have hMc := l3_le (l := 4) (p0 := p0) hcn64 8
          conv => whnf
          refine arI64_to (m := (((l3 4 cn p0 8).1 : Nat) : Int)) (show (((l3 4 cn p0 8).1 : Nat) : Int) - 0 = _ by omega) (by omega) (by omega) ?_
          conv => whnf
          refine finP_forget 1 0 rfl rfl fun v0 => ?_
          refine finP_forget 1 39 rfl rfl fun v1 => ?_
          refine finP_forget 1 40 rfl rfl fun v2 => ?_
          refine finP_forget 1 41 rfl rfl fun v3 => ?_
          refine finP_forget 1 42 rfl rfl fun v4 => ?_
          refine finP_intro [0, 1] (.o (.l (.p 1 0 0 0))) [(1, some (.st (r16C (fun j => match j with | 0 => v0 | 1 => .int .i64 0 | 2 => .int .i64 bu | 3 => .int .i64 g | 4 => .pointer pa | 5 => .pointer pb | 6 => .pointer pc | 39 => v1 | 40 => v2 | 41 => v3 | 42 => v4 | j => V (j - 7)) ((l3 4 cn p0 8).1 : Int))))] 2 rfl ⟨_, rfl, rfl, by rw [hN]⟩ rfl rfl rfl ⟨rfl, trivial⟩ rfl
end Go.Proofs.Ytmccmanekbiadaa
set_option linter.unusedSimpArgs false
set_option linter.unusedVariables false
namespace Go.Proofs.Ytmccmanekbiadaa
open Go Go.Sx

theorem drawP_forget {G : Ctx} {is : List IOp} {after : List (List Nat)} {r : Regs} {h : Heap} {n : Nat} {K : X → Regs → Heap → Nat → Prop} (k j : Nat) {cs : List LV} {k2 wd row col : Nat} (hk : hget h k = some (.st cs)) (hj : nth cs j = some (.p k2 wd row col))
    (hf : ∀ p : Addr, DrawP G is after r ((k, some (.st (setL cs j (.v (.pointer (some p)))))) :: h) n K) : DrawP G is after r h n K := by
  rw [DrawP_eq]
  intro id ops hc ha a w hs
  obtain ⟨ρ, φ, gm, hr, hd⟩ := hs
  have hq := hf (adr (ρ k2) (row * wd + col))
  rw [DrawP_eq] at hq
  refine hq id ops hc ha a w ⟨ρ, φ, gm_of_hm gm (Nat.le_refl n) (fun _ _ => rfl) (hm_forget gm.hm hk hj rfl) (frm_refl w _) (fun j e hj' ho b hb => ?_) (fun j e hj' b hb => ?_), hr, hd⟩
  · obtain ⟨e1, r1, r2⟩ := forget_own hk hj'
    exact .inl ⟨j, e1, r1, by rw [r2]; exact ho, hb⟩
  · obtain ⟨e1, r1, r2⟩ := forget_own hk hj'
    exact .inl ⟨j, e1, r1, hb⟩
/-- The document's port, open (names 1 to 3). -/
def rPortO (th nw : Nat) (ws : Nat → Int) : Heap := [(1, some (.st [.s 2 1 0 nw 0, .v (.int .i64 th), .v (.slice none 0 0), .s 3 3 0 th 0])), (2, some (.ar 1 nw (wordE ws))), (3, some (.ar 3 th (tripE (fun _ => 0) (fun _ => 0) fun _ => 0)))]
theorem rPort_open (th nw : Nat) (ws : Nat → Int) (hn : th ≤ 1000) (hw : nw ≤ 10000) : FSpec Try.prog 49 [(0, some (.ro 1 nw (wordE ws)))] 1 [.l (.v (.int .i64 th)), .l (.s 0 1 0 nw 0)] fun x h k =>
    x = .o (.l (.p 1 0 0 0)) ∧ k = 4 ∧ h = rPortO th nw ws := by
  refine spec_of_ev Try.func49 ic49_eq (rs := [.t 4]) (by kernel_rfl) (by kernel_rfl) (by kernel_rfl) fun G hP hA => ?_
  unfold evF ic49
  conv => whnf
  (repeat' (first | (refine And.intro (by (first | omega | assumption | (simp only [nadd_eq]; omega) | (simp [nadd_eq]; omega))) ?_; conv => whnf) | (refine arI64 (by omega) (by omega) ?_; conv => whnf) | (refine arU32 (by omega) (by omega) ?_; conv => whnf) | (refine arU8 (by omega) (by omega) ?_; conv => whnf)))
  (refine fin_auto ?_; conv => whnf); exact ⟨rfl, rfl, rfl, rfl, has_a, rfl⟩
def lockV (kind : Int) (A : Nat → Option Addr) : AV := .a [.v (.int .i64 kind), .v (.pointer (A 1)), .v (.pointer (A 2)), .v (.pointer (A 3)), .v (.pointer (A 4)), .v (.pointer (A 5)), .v (.pointer (A 6)), .v (.pointer (A 7))]
def RefQ (kind : Int) (m nw : Nat) (ws : Nat → Int) : SV → Heap → Nat → Prop := fun x h' k => (∃ A, x = .t [lockV kind A, .l (.p 1 0 0 0)]) ∧ k = 4 ∧ h' = rPortO m nw ws
set_option maxRecDepth 4000 in
theorem refNew1_spec (m : Nat) (h : Nat → Int) (start slots pool budget glob loc : Int) (hm : 1 ≤ m ∧ m ≤ 64) (hb : anyZ badH h m = false)  :
    FSpec Try.prog 14 [(0, some (.ro 1 m (numE h)))] 1 [confA 1 0 m start slots pool budget glob loc] (RefQ 1 m (2) (fun _ => start)) := by
  have h1 := r10_spec m 0 (by omega)
  have h2 := r10W_spec start
  have hport := rPort_open m (2) (fun _ => start) (by omega) (by omega)
  refine spec_of_ev Try.func14 ic14_eq (rs := [.ca 2 8, .t 3]) (by kernel_rfl) (by kernel_rfl) (by kernel_rfl) fun G hP hA => ?_
  unfold evF ic14
  conv => whnf
  (refine join_plain ?_; conv => whnf)
  refine draw_to (ds := []) 6 [(6, .o (.l (.s 5 1 0 (2) 0)))] [] [(3, some (.st [.v (.int .i64 1), .p 4 0 0 0, .v (.pointer none), .v (.pointer none), .v (.pointer none), .v (.pointer none), .v (.pointer none), .v (.pointer none)])), (4, some (r10P m 0 (fun _ => 0) (fun _ => -1) (fun _ => 0) fun _ => 0)), (5, some (.ar 1 (2) (wordE (fun _ => start))))] ?_ ?_
  · conv => whnf
    (refine drawP_lazy (by rw [hP]; exact follows) 60 (by kernel_rfl) ?_; conv => whnf)
    repeat' (first | (refine And.intro (by first | omega | decide | (simp [nadd_eq]; omega)) ?_; conv => whnf) | (refine arI64 (by omega) (by omega) ?_; conv => whnf) | (refine And.intro ?_ ?_ <;> (conv => whnf)))
    all_goals (first | (refine callD_auto hP (h1) ?_; conv => whnf); (refine ⟨⟨rfl, rfl, rfl, has_a, rfl, rfl⟩, ?_⟩; conv => whnf) | (refine callD_auto hP (h2) ?_; conv => whnf); (refine ⟨⟨rfl, rfl, rfl, has_a, rfl, rfl⟩, ?_⟩; conv => whnf) | skip)
    repeat' (first | (refine And.intro (by first | omega | decide | (simp [nadd_eq]; omega)) ?_; conv => whnf) | (refine arI64 (by omega) (by omega) ?_; conv => whnf) | (refine And.intro ?_ ?_ <;> (conv => whnf)))
    all_goals (first | (refine callD_auto hP (h1) ?_; conv => whnf); (refine ⟨⟨rfl, rfl, rfl, has_a, rfl, rfl⟩, ?_⟩; conv => whnf) | (refine callD_auto hP (h2) ?_; conv => whnf); (refine ⟨⟨rfl, rfl, rfl, has_a, rfl, rfl⟩, ?_⟩; conv => whnf) | skip)
    repeat' (first | (refine And.intro (by first | omega | decide | (simp [nadd_eq]; omega)) ?_; conv => whnf) | (refine arI64 (by omega) (by omega) ?_; conv => whnf) | (refine And.intro ?_ ?_ <;> (conv => whnf)))
    all_goals (conv => whnf); (refine imp_auto hA ?_; conv => whnf); exact ⟨rfl, rfl, rfl, regs_a, has_a, rfl⟩
  conv => whnf
  refine drawP_forget 3 1 rfl rfl fun p => ?_
  conv => whnf
  (refine drawP_lazy (by rw [hP]; exact follows) 60 (by kernel_rfl) ?_; conv => whnf)
  repeat' (first | (refine And.intro (by first | omega | decide | (simp [nadd_eq]; omega)) ?_; conv => whnf) | (refine arI64 (by omega) (by omega) ?_; conv => whnf) | (refine And.intro ?_ ?_ <;> (conv => whnf)))
  all_goals (refine callD_auto hP (hport) ?_; conv => whnf); (refine ⟨⟨rfl, rfl, rfl, has_a, rfl, rfl⟩, ?_⟩; conv => whnf)
  repeat' (first | (refine And.intro (by first | omega | decide | (simp [nadd_eq]; omega)) ?_; conv => whnf) | (refine arI64 (by omega) (by omega) ?_; conv => whnf) | (refine And.intro ?_ ?_ <;> (conv => whnf)))
  all_goals
    refine finP_intro [0, 6, 7, 8] (.t [lockV 1 fun j => if j = 1 then some p else none, .l (.p 1 0 0 0)]) (rPortO m (2) (fun _ => start)) 4 rfl ⟨⟨_, rfl⟩, rfl, rfl⟩ rfl rfl rfl ?_ rfl
    exact has_a
set_option maxRecDepth 4000 in
theorem refNew2_spec (m : Nat) (h : Nat → Int) (start slots : Nat) (pool budget glob loc : Int) (hm : 1 ≤ m ∧ m ≤ 64) (hb : anyZ badH h m = false) (hu : start < 4294967296) (hs : 1 ≤ slots ∧ slots ≤ 64) :
    FSpec Try.prog 14 [(0, some (.ro 1 m (numE h)))] 1 [confA 2 0 m start slots pool budget glob loc] (RefQ 2 m (slots + 1) (r11W start slots)) := by
  have h1 := r11_spec m slots 0 (by omega)
  have h2 := r11W_spec start slots hu hs
  have hport := rPort_open m (slots + 1) (r11W start slots) (by omega) (by omega)
  refine spec_of_ev Try.func14 ic14_eq (rs := [.ca 2 8, .t 3]) (by kernel_rfl) (by kernel_rfl) (by kernel_rfl) fun G hP hA => ?_
  unfold evF ic14
  conv => whnf
  (refine join_plain ?_; conv => whnf)
  refine draw_to (ds := []) 6 [(6, .o (.l (.s 5 1 0 (slots + 1) 0)))] [] [(3, some (.st [.v (.int .i64 2), .v (.pointer none), .p 4 0 0 0, .v (.pointer none), .v (.pointer none), .v (.pointer none), .v (.pointer none), .v (.pointer none)])), (4, some (r11P m 0 slots (fun _ => 0) (fun _ => -1) (fun _ => 0) fun _ => 0)), (5, some (.ar 1 (slots + 1) (wordE (r11W start slots))))] ?_ ?_
  · conv => whnf
    (refine drawP_lazy (by rw [hP]; exact follows) 60 (by kernel_rfl) ?_; conv => whnf)
    repeat' (first | (refine And.intro (by first | omega | decide | (simp [nadd_eq]; omega)) ?_; conv => whnf) | (refine arI64 (by omega) (by omega) ?_; conv => whnf) | (refine And.intro ?_ ?_ <;> (conv => whnf)))
    all_goals (first | (refine callD_auto hP (h1) ?_; conv => whnf); (refine ⟨⟨rfl, rfl, rfl, has_a, rfl, rfl⟩, ?_⟩; conv => whnf) | (refine callD_auto hP (h2) ?_; conv => whnf); (refine ⟨⟨rfl, rfl, rfl, has_a, rfl, rfl⟩, ?_⟩; conv => whnf) | skip)
    repeat' (first | (refine And.intro (by first | omega | decide | (simp [nadd_eq]; omega)) ?_; conv => whnf) | (refine arI64 (by omega) (by omega) ?_; conv => whnf) | (refine And.intro ?_ ?_ <;> (conv => whnf)))
    all_goals (first | (refine callD_auto hP (h1) ?_; conv => whnf); (refine ⟨⟨rfl, rfl, rfl, has_a, rfl, rfl⟩, ?_⟩; conv => whnf) | (refine callD_auto hP (h2) ?_; conv => whnf); (refine ⟨⟨rfl, rfl, rfl, has_a, rfl, rfl⟩, ?_⟩; conv => whnf) | skip)
    repeat' (first | (refine And.intro (by first | omega | decide | (simp [nadd_eq]; omega)) ?_; conv => whnf) | (refine arI64 (by omega) (by omega) ?_; conv => whnf) | (refine And.intro ?_ ?_ <;> (conv => whnf)))
    all_goals (conv => whnf); (refine imp_auto hA ?_; conv => whnf); exact ⟨rfl, rfl, rfl, regs_a, has_a, rfl⟩
  conv => whnf
  refine drawP_forget 3 2 rfl rfl fun p => ?_
  conv => whnf
  (refine drawP_lazy (by rw [hP]; exact follows) 60 (by kernel_rfl) ?_; conv => whnf)
  repeat' (first | (refine And.intro (by first | omega | decide | (simp [nadd_eq]; omega)) ?_; conv => whnf) | (refine arI64 (by omega) (by omega) ?_; conv => whnf) | (refine And.intro ?_ ?_ <;> (conv => whnf)))
  all_goals (refine callD_auto hP (hport) ?_; conv => whnf); (refine ⟨⟨rfl, rfl, rfl, has_a, rfl, rfl⟩, ?_⟩; conv => whnf)
  repeat' (first | (refine And.intro (by first | omega | decide | (simp [nadd_eq]; omega)) ?_; conv => whnf) | (refine arI64 (by omega) (by omega) ?_; conv => whnf) | (refine And.intro ?_ ?_ <;> (conv => whnf)))
  all_goals
    refine finP_intro [0, 6, 7, 8] (.t [lockV 2 fun j => if j = 2 then some p else none, .l (.p 1 0 0 0)]) (rPortO m (slots + 1) (r11W start slots)) 4 rfl ⟨⟨_, rfl⟩, rfl, rfl⟩ rfl rfl rfl ?_ rfl
    exact has_a
set_option maxRecDepth 4000 in
theorem refNew3_spec (m : Nat) (h : Nat → Int) (start slots pool budget glob loc : Int) (hm : 1 ≤ m ∧ m ≤ 64) (hb : anyZ badH h m = false)  :
    FSpec Try.prog 14 [(0, some (.ro 1 m (numE h)))] 1 [confA 3 0 m start slots pool budget glob loc] (RefQ 3 m (m + 2) (fun _ => 0)) := by
  have h1 := r12_spec m 0 (by omega)
  have hport := rPort_open m (m + 2) (fun _ => 0) (by omega) (by omega)
  refine spec_of_ev Try.func14 ic14_eq (rs := [.ca 2 8, .t 3]) (by kernel_rfl) (by kernel_rfl) (by kernel_rfl) fun G hP hA => ?_
  unfold evF ic14
  conv => whnf
  (refine join_plain ?_; conv => whnf)
  refine draw_to (ds := []) 6 [(6, .o (.l (.s 5 1 0 (m + 2) 0)))] [] [(3, some (.st [.v (.int .i64 3), .v (.pointer none), .v (.pointer none), .p 4 0 0 0, .v (.pointer none), .v (.pointer none), .v (.pointer none), .v (.pointer none)])), (4, some (r12P m 0 (fun _ => 0) (fun _ => -1) (fun _ => 0) (fun i => i + 1) fun _ => 0)), (5, some (.ar 1 (m + 2) (wordE (fun _ => 0))))] ?_ ?_
  · conv => whnf
    (refine drawP_lazy (by rw [hP]; exact follows) 60 (by kernel_rfl) ?_; conv => whnf)
    repeat' (first | (refine And.intro (by first | omega | decide | (simp [nadd_eq]; omega)) ?_; conv => whnf) | (refine arI64 (by omega) (by omega) ?_; conv => whnf) | (refine And.intro ?_ ?_ <;> (conv => whnf)))
    all_goals (first | (refine callD_auto hP (h1) ?_; conv => whnf); (refine ⟨⟨rfl, rfl, rfl, has_a, rfl, rfl⟩, ?_⟩; conv => whnf) | skip)
    repeat' (first | (refine And.intro (by first | omega | decide | (simp [nadd_eq]; omega)) ?_; conv => whnf) | (refine arI64 (by omega) (by omega) ?_; conv => whnf) | (refine And.intro ?_ ?_ <;> (conv => whnf)))
    all_goals (conv => whnf); (refine imp_auto hA ?_; conv => whnf); exact ⟨rfl, rfl, rfl, regs_a, has_a, rfl⟩
  conv => whnf
  refine drawP_forget 3 3 rfl rfl fun p => ?_
  conv => whnf
  (refine drawP_lazy (by rw [hP]; exact follows) 60 (by kernel_rfl) ?_; conv => whnf)
  repeat' (first | (refine And.intro (by first | omega | decide | (simp [nadd_eq]; omega)) ?_; conv => whnf) | (refine arI64 (by omega) (by omega) ?_; conv => whnf) | (refine And.intro ?_ ?_ <;> (conv => whnf)))
  all_goals (refine callD_auto hP (hport) ?_; conv => whnf); (refine ⟨⟨rfl, rfl, rfl, has_a, rfl, rfl⟩, ?_⟩; conv => whnf)
  repeat' (first | (refine And.intro (by first | omega | decide | (simp [nadd_eq]; omega)) ?_; conv => whnf) | (refine arI64 (by omega) (by omega) ?_; conv => whnf) | (refine And.intro ?_ ?_ <;> (conv => whnf)))
  all_goals
    refine finP_intro [0, 6, 7, 8] (.t [lockV 3 fun j => if j = 3 then some p else none, .l (.p 1 0 0 0)]) (rPortO m (m + 2) (fun _ => 0)) 4 rfl ⟨⟨_, rfl⟩, rfl, rfl⟩ rfl rfl rfl ?_ rfl
    exact has_a
set_option maxRecDepth 4000 in
theorem refNew4_spec (m : Nat) (h : Nat → Int) (start slots pool budget glob loc : Int) (hm : 1 ≤ m ∧ m ≤ 64) (hb : anyZ badH h m = false)  :
    FSpec Try.prog 14 [(0, some (.ro 1 m (numE h)))] 1 [confA 4 0 m start slots pool budget glob loc] (RefQ 4 m (2 * m + 1) (fun _ => 0)) := by
  have h1 := r13_spec m 0 (by omega)
  have hport := rPort_open m (2 * m + 1) (fun _ => 0) (by omega) (by omega)
  refine spec_of_ev Try.func14 ic14_eq (rs := [.ca 2 8, .t 3]) (by kernel_rfl) (by kernel_rfl) (by kernel_rfl) fun G hP hA => ?_
  unfold evF ic14
  conv => whnf
  (refine join_plain ?_; conv => whnf)
  refine draw_to (ds := []) 6 [(6, .o (.l (.s 5 1 0 (2 * m + 1) 0)))] [] [(3, some (.st [.v (.int .i64 4), .v (.pointer none), .v (.pointer none), .v (.pointer none), .p 4 0 0 0, .v (.pointer none), .v (.pointer none), .v (.pointer none)])), (4, some (r13P m 0 (fun _ => 0) (fun _ => -1) (fun _ => 0) fun _ => 0)), (5, some (.ar 1 (2 * m + 1) (wordE (fun _ => 0))))] ?_ ?_
  · conv => whnf
    (refine drawP_lazy (by rw [hP]; exact follows) 60 (by kernel_rfl) ?_; conv => whnf)
    repeat' (first | (refine And.intro (by first | omega | decide | (simp [nadd_eq]; omega)) ?_; conv => whnf) | (refine arI64 (by omega) (by omega) ?_; conv => whnf) | (refine And.intro ?_ ?_ <;> (conv => whnf)))
    all_goals (first | (refine callD_auto hP (h1) ?_; conv => whnf); (refine ⟨⟨rfl, rfl, rfl, has_a, rfl, rfl⟩, ?_⟩; conv => whnf) | skip)
    repeat' (first | (refine And.intro (by first | omega | decide | (simp [nadd_eq]; omega)) ?_; conv => whnf) | (refine arI64 (by omega) (by omega) ?_; conv => whnf) | (refine And.intro ?_ ?_ <;> (conv => whnf)))
    all_goals (conv => whnf); (refine imp_auto hA ?_; conv => whnf); exact ⟨rfl, rfl, rfl, regs_a, has_a, rfl⟩
  conv => whnf
  refine drawP_forget 3 4 rfl rfl fun p => ?_
  conv => whnf
  (refine drawP_lazy (by rw [hP]; exact follows) 60 (by kernel_rfl) ?_; conv => whnf)
  repeat' (first | (refine And.intro (by first | omega | decide | (simp [nadd_eq]; omega)) ?_; conv => whnf) | (refine arI64 (by omega) (by omega) ?_; conv => whnf) | (refine And.intro ?_ ?_ <;> (conv => whnf)))
  all_goals (refine callD_auto hP (hport) ?_; conv => whnf); (refine ⟨⟨rfl, rfl, rfl, has_a, rfl, rfl⟩, ?_⟩; conv => whnf)
  repeat' (first | (refine And.intro (by first | omega | decide | (simp [nadd_eq]; omega)) ?_; conv => whnf) | (refine arI64 (by omega) (by omega) ?_; conv => whnf) | (refine And.intro ?_ ?_ <;> (conv => whnf)))
  all_goals
    refine finP_intro [0, 6, 7, 8] (.t [lockV 4 fun j => if j = 4 then some p else none, .l (.p 1 0 0 0)]) (rPortO m (2 * m + 1) (fun _ => 0)) 4 rfl ⟨⟨_, rfl⟩, rfl, rfl⟩ rfl rfl rfl ?_ rfl
    exact has_a
set_option maxRecDepth 4000 in
theorem refNew5_spec (m : Nat) (h : Nat → Int) (pool : Nat) (start slots budget glob loc : Int) (hm : 1 ≤ m ∧ m ≤ 64) (hb : anyZ badH h m = false) (hp : 1 ≤ pool ∧ pool ≤ 8) :
    FSpec Try.prog 14 [(0, some (.ro 1 m (numE h)))] 1 [confA 5 0 m start slots pool budget glob loc] (RefQ 5 m (3 * m * pool + 1) (fun _ => 0)) := by
  have h1 := r14_spec m pool 0 (by omega)
  have hmp : 3 * m * pool ≤ 192 * 8 := Nat.mul_le_mul (by omega) hp.2
  have hmi : (3 : Int) * (m : Int) * (pool : Int) = ((3 * m * pool : Nat) : Int) := rfl
  have hmj : 0 ≤ (3 : Int) * (m : Int) * (pool : Int) ∧ (3 : Int) * (m : Int) * (pool : Int) ≤ 1536 := by rw [hmi]; omega
  have hport := rPort_open m (3 * m * pool + 1) (fun _ => 0) (by omega) (by omega)
  refine spec_of_ev Try.func14 ic14_eq (rs := [.ca 2 8, .t 3]) (by kernel_rfl) (by kernel_rfl) (by kernel_rfl) fun G hP hA => ?_
  unfold evF ic14
  conv => whnf
  (refine join_plain ?_; conv => whnf)
  refine draw_to (ds := []) 6 [(6, .o (.l (.s 5 1 0 (3 * m * pool + 1) 0)))] [] [(3, some (.st [.v (.int .i64 5), .v (.pointer none), .v (.pointer none), .v (.pointer none), .v (.pointer none), .p 4 0 0 0, .v (.pointer none), .v (.pointer none)])), (4, some (r14P m 0 pool (fun _ => 0) (fun _ => -1) (fun _ => 1) (fun _ => 0) (fun _ => 0) fun _ => 0)), (5, some (.ar 1 (3 * m * pool + 1) (wordE (fun _ => 0))))] ?_ ?_
  · conv => whnf
    (refine drawP_lazy (by rw [hP]; exact follows) 60 (by kernel_rfl) ?_; conv => whnf)
    repeat' (first | (refine And.intro (by first | omega | decide | (simp [nadd_eq]; omega)) ?_; conv => whnf) | (refine arI64 (by omega) (by omega) ?_; conv => whnf) | (refine And.intro ?_ ?_ <;> (conv => whnf)))
    all_goals (first | (refine callD_auto hP (h1) ?_; conv => whnf); (refine ⟨⟨rfl, rfl, rfl, has_a, rfl, rfl⟩, ?_⟩; conv => whnf) | skip)
    repeat' (first | (refine And.intro (by first | omega | decide | (simp [nadd_eq]; omega)) ?_; conv => whnf) | (refine arI64 (by omega) (by omega) ?_; conv => whnf) | (refine And.intro ?_ ?_ <;> (conv => whnf)))
    all_goals (conv => whnf); (refine imp_auto hA ?_; conv => whnf); exact ⟨rfl, rfl, rfl, regs_a, has_a, rfl⟩
  conv => whnf
  refine drawP_forget 3 5 rfl rfl fun p => ?_
  conv => whnf
  (refine drawP_lazy (by rw [hP]; exact follows) 60 (by kernel_rfl) ?_; conv => whnf)
  repeat' (first | (refine And.intro (by first | omega | decide | (simp [nadd_eq]; omega)) ?_; conv => whnf) | (refine arI64 (by omega) (by omega) ?_; conv => whnf) | (refine And.intro ?_ ?_ <;> (conv => whnf)))
  all_goals (refine callD_auto hP (hport) ?_; conv => whnf); (refine ⟨⟨rfl, rfl, rfl, has_a, rfl, rfl⟩, ?_⟩; conv => whnf)
  repeat' (first | (refine And.intro (by first | omega | decide | (simp [nadd_eq]; omega)) ?_; conv => whnf) | (refine arI64 (by omega) (by omega) ?_; conv => whnf) | (refine And.intro ?_ ?_ <;> (conv => whnf)))
  all_goals
    refine finP_intro [0, 6, 7, 8] (.t [lockV 5 fun j => if j = 5 then some p else none, .l (.p 1 0 0 0)]) (rPortO m (3 * m * pool + 1) (fun _ => 0)) 4 rfl ⟨⟨_, rfl⟩, rfl, rfl⟩ rfl rfl rfl ?_ rfl
    exact has_a
set_option maxRecDepth 4000 in
theorem refNew6_spec (m : Nat) (h : Nat → Int) (start slots pool budget glob loc : Int) (hm : 1 ≤ m ∧ m ≤ 64) (hb : anyZ badH h m = false)  :
    FSpec Try.prog 14 [(0, some (.ro 1 m (numE h)))] 1 [confA 6 0 m start slots pool budget glob loc] (RefQ 6 m (m + 10) (r15W m)) := by
  have h1 := r15_spec m h 0 (by omega)
  have h2 := r15W_spec m hm
  have hport := rPort_open m (m + 10) (r15W m) (by omega) (by omega)
  refine spec_of_ev Try.func14 ic14_eq (rs := [.ca 2 8, .t 3]) (by kernel_rfl) (by kernel_rfl) (by kernel_rfl) fun G hP hA => ?_
  unfold evF ic14
  conv => whnf
  (refine join_plain ?_; conv => whnf)
  (refine call_auto hP (h1) ?_; conv => whnf); (refine ⟨⟨rfl, rfl, rfl, has_a, rfl, rfl⟩, ?_⟩; conv => whnf)
  (refine call_auto hP (h2) ?_; conv => whnf); (refine ⟨⟨rfl, rfl, rfl, has_a, rfl, rfl⟩, ?_⟩; conv => whnf)
  refine drawP_forget 3 6 rfl rfl fun p => ?_
  conv => whnf
  (refine drawP_lazy (by rw [hP]; exact follows) 60 (by kernel_rfl) ?_; conv => whnf)
  repeat' (first | (refine And.intro (by first | omega | decide | (simp [nadd_eq]; omega)) ?_; conv => whnf) | (refine arI64 (by omega) (by omega) ?_; conv => whnf) | (refine And.intro ?_ ?_ <;> (conv => whnf)))
  all_goals (refine callD_auto hP (hport) ?_; conv => whnf); (refine ⟨⟨rfl, rfl, rfl, has_a, rfl, rfl⟩, ?_⟩; conv => whnf)
  repeat' (first | (refine And.intro (by first | omega | decide | (simp [nadd_eq]; omega)) ?_; conv => whnf) | (refine arI64 (by omega) (by omega) ?_; conv => whnf) | (refine And.intro ?_ ?_ <;> (conv => whnf)))
  all_goals
    refine finP_intro [0, 6, 7, 8] (.t [lockV 6 fun j => if j = 6 then some p else none, .l (.p 1 0 0 0)]) (rPortO m (m + 10) (r15W m)) 4 rfl ⟨⟨_, rfl⟩, rfl, rfl⟩ rfl rfl rfl ?_ rfl
    exact has_a
set_option maxRecDepth 4000 in
theorem refNew7_spec (m : Nat) (h : Nat → Int) (g l : Nat) (start slots pool budget : Int) (hm : 1 ≤ m ∧ m ≤ 64) (hb : anyZ badH h m = false) (hg : isIn g) (hl : isIn l) :
    FSpec Try.prog 14 [(0, some (.ro 1 m (numE h)))] 1 [confA 7 0 m start slots pool budget g l] (RefQ 7 m (cohN m g l h) (fun _ => 0)) := by
  have h1 := r16_spec m h g l budget hm hb hg hl
  have hN := cohN_le m g l h hm.2
  have hport := rPort_open m (cohN m g l h) (fun _ => 0) (by omega) (by omega)
  refine spec_of_ev Try.func14 ic14_eq (rs := [.ca 2 8, .t 3]) (by kernel_rfl) (by kernel_rfl) (by kernel_rfl) fun G hP hA => ?_
  unfold evF ic14
  conv => whnf
  (refine join_plain ?_; conv => whnf)
  rw [← hP] at h1
  refine callP_spec h1 [0] rfl rfl rfl has_a rfl fun x h' k hq => ?_
  obtain ⟨V, rfl, rfl, rfl⟩ := hq
  refine ⟨rfl, ?_⟩
  conv => whnf
  (repeat' (first | (refine And.intro (by (first | omega | assumption | (simp only [nadd_eq]; omega) | (simp [nadd_eq]; omega))) ?_; conv => whnf) | (refine arI64 (by omega) (by omega) ?_; conv => whnf) | (refine arU32 (by omega) (by omega) ?_; conv => whnf) | (refine arU8 (by omega) (by omega) ?_; conv => whnf)))
  refine drawP_forget 3 7 rfl rfl fun p => ?_
  conv => whnf
  (refine drawP_lazy (by rw [hP]; exact follows) 60 (by kernel_rfl) ?_; conv => whnf)
  repeat' (first | (refine And.intro (by first | omega | decide | (simp [nadd_eq]; omega)) ?_; conv => whnf) | (refine arI64 (by omega) (by omega) ?_; conv => whnf) | (refine And.intro ?_ ?_ <;> (conv => whnf)))
  all_goals (refine callD_auto hP (hport) ?_; conv => whnf); (refine ⟨⟨rfl, rfl, rfl, has_a, rfl, rfl⟩, ?_⟩; conv => whnf)
  repeat' (first | (refine And.intro (by first | omega | decide | (simp [nadd_eq]; omega)) ?_; conv => whnf) | (refine arI64 (by omega) (by omega) ?_; conv => whnf) | (refine And.intro ?_ ?_ <;> (conv => whnf)))
  all_goals
    refine finP_intro [0, 6, 7, 8] (.t [lockV 7 fun j => if j = 7 then some p else none, .l (.p 1 0 0 0)]) (rPortO m (cohN m g l h) (fun _ => 0)) 4 rfl ⟨⟨_, rfl⟩, rfl, rfl⟩ rfl rfl rfl ?_ rfl
    exact has_a
end Go.Proofs.Ytmccmanekbiadaa
