/- BuildNews: what the walk calls. · BuildNews: kind 1. · BuildNews: kind 2. · BuildNews: kind 3. · BuildNews: kind 4. · BuildNews: kind 5. · BuildNews: kind 6. · BuildNews: kind 7. · BuildNews: what is not built. · BuildNews: the whole. -/
import Derived.Test.YtmccmanekbiadaaMc
import Derived.Test.YtmccmanekbiadaaMb
set_option linter.unusedSimpArgs false
set_option linter.unusedVariables false
namespace Go.Proofs.Ytmccmanekbiadaa
open Go Go.Sx

theorem inv_promc {P : Program} {G : Ctx} {t : TypeId} {name : String} {fid : FuncId} {k c k2 : Nat} {cs : List LV} {xs : List AV} {h : Heap} {n : Nat} {K : SV → Heap → Nat → Prop} (hP : G.P = P)
    (hm : ∀ (a : Addr) (args : Array Value) (w : World) (v : Value), w.cell? (a.add c) = some v → (callMethod (.iface t (.pointer (some a))) name args).run P w = .ok (.enter fid (#[v] ++ args)) w)
    (hk : hget h k = some (.st cs)) (hc : nth cs c = some (.p k2 0 0 0)) (hcall : CallP G fid (.l (.p k2 0 0 0) :: xs) h n K) : InvP G (.l (.i t k)) name xs h n K := by
  subst hP
  rw [CallP_eq] at hcall
  rw [InvP_eq]
  intro G' hG' ρ φ w g hr hxs
  obtain ⟨e1, e2, e3, ⟨ty, e4⟩, e5⟩ := g.hm.at_ k _ hk
  rw [nth_eq] at hc
  have hcell : w.cell? ((adr (ρ k) 0).add c) = some ((LV.p k2 0 0 0).at ρ) := by
    by_cases h0 : c = 0
    · subst h0
      simp [World.cell?, adr, Addr.add, e2, e4, hc]
    · simp [World.cell?, adr, Addr.add, h0, e2, e4, hc]
  refine ⟨fid, _, hm _ _ _ _ hcell, ?_⟩
  have := hcall.2 G' hG' ρ φ w g (fun x hx => by
    rcases List.mem_cons.1 hx with rfl | hx
    · exact e5 _ (List.mem_of_getElem? hc)
    · exact hxs x hx)
  simpa [AV.at] using this
theorem invD_ghost {G : Ctx} {rc : AV} {nm : String} {xs : List AV} {h v : Heap} {n n2 : Nat} {K : SV → Heap → Nat → Prop} (hg : GSpec h n (v ++ h) n2) (he : InvD G rc nm xs (v ++ h) n2 fun x u n' => K x (u ++ v) n') : InvD G rc nm xs h n K := by
  obtain ⟨x, u, n', h1, h2⟩ := he
  refine ⟨x, _, n', invP_ghost hg ?_, h2⟩
  rw [InvP_eq] at h1 ⊢
  intro G' hG' ρ φ w g hr hxs
  obtain ⟨f, args, q0, hc⟩ := h1 G' hG' ρ φ w g hr hxs
  exact ⟨f, args, q0, hc.mono fun e w' ⟨x', u', m', ρ', φ', e1, ⟨e2, e3, e4⟩, e5⟩ => ⟨x', u', m', ρ', φ', e1, ⟨e2, by rw [e3], e4⟩, e5⟩⟩
theorem invD_prom {P : Program} {G : Ctx} {t : TypeId} {name : String} {fid : FuncId} {k c k2 : Nat} {cs : List LV} {xs : List AV} {h : Heap} {n : Nat} {K : SV → Heap → Nat → Prop} (hP : G.P = P)
    (hm : ∀ (a : Addr) (args : Array Value) (w : World) (v : Value), w.cell? (a.add c) = some v → (callMethod (.iface t (.pointer (some a))) name args).run P w = .ok (.enter fid (#[v] ++ args)) w)
    (hk : hget h k = some (.st cs)) (hc : nth cs c = some (.p k2 0 0 0)) (hcall : CallD G fid (.l (.p k2 0 0 0) :: xs) h n K) : InvD G (.l (.i t k)) name xs h n K := by
  obtain ⟨x, u, n', h1, h2⟩ := hcall
  exact ⟨x, u, n', inv_promc hP hm hk hc h1, h2⟩
theorem seatLen_spec (n : Nat) (st dl : Nat → Int) (a b : Bool) : FSpec Try.prog 173 [(0, some (seatP n st dl a b))] 1 [.l (.p 0 0 0 0)] fun x h k => x = sInt .i64 (n : Int) ∧ k = 1 ∧ h = [(0, some (seatP n st dl a b))] := by
  refine spec_of_ev_g (open_spec (seatH n st dl a b) 2 0 (by omega)) Try.func173 ic173_eq (rs := [.t 2]) (by kernel_rfl) (by kernel_rfl) (by kernel_rfl) fun G hP hA => ?_
  unfold evF ic173
  conv => whnf
  (refine fin_close (H := (seatH n st dl a b)) (np := 2) 0 0 (Nat.le_of_ble_eq_true rfl) ?_; conv => whnf); (refine ⟨⟨rfl, by omega, rfl, rfl, has_a, rfl⟩, ?_⟩)
  (refine fin_auto ?_; conv => whnf); exact ⟨rfl, rfl, rfl, rfl, has_a, rfl⟩
theorem portThreads_spec (nt : Nat) : FSpec Try.prog 16 [(0, some (.st [.p 1 0 0 0, .p 2 0 0 0, .s 3 2 0 nt 0]))] 4 [.l (.p 0 0 0 0)] fun x h k => x = sInt .i64 (nt : Int) ∧ k = 4 ∧ h = [(0, some (.st [.p 1 0 0 0, .p 2 0 0 0, .s 3 2 0 nt 0]))] := by
  refine spec_of_ev Try.func16 ic16_eq (rs := [.t 2]) (by kernel_rfl) (by kernel_rfl) (by kernel_rfl) fun G hP hA => ?_
  unfold evF ic16
  conv => whnf
  (refine fin_auto ?_; conv => whnf); exact ⟨rfl, rfl, rfl, rfl, has_a, rfl⟩
theorem invLen_flat (a : Addr) (args : Array Value) (w : World) (v : Value) (h : w.cell? (a.add 0) = some v) : (callMethod (.iface 154 (.pointer (some a))) "Len" args).run Try.prog w = .ok (.enter 173 (#[v] ++ args)) w := by
  have e : (callMethod (.iface 154 (.pointer (some a))) "Len" args).run Try.prog w = (match w.cell? (a.add 0) with
      | some v => .ok (.enter 173 (#[v] ++ args)) w
      | none => match w.farLoad Try.prog (a.add 0) false with
        | .ok (v, _) => .ok (.enter 173 (#[v] ++ args)) w
        | .error h => .halt h w) := by kernel_rfl
  rw [e, h]
theorem invLen_slots (a : Addr) (args : Array Value) (w : World) (v : Value) (h : w.cell? (a.add 0) = some v) : (callMethod (.iface 157 (.pointer (some a))) "Len" args).run Try.prog w = .ok (.enter 173 (#[v] ++ args)) w := by
  have e : (callMethod (.iface 157 (.pointer (some a))) "Len" args).run Try.prog w = (match w.cell? (a.add 0) with
      | some v => .ok (.enter 173 (#[v] ++ args)) w
      | none => match w.farLoad Try.prog (a.add 0) false with
        | .ok (v, _) => .ok (.enter 173 (#[v] ++ args)) w
        | .error h => .halt h w) := by kernel_rfl
  rw [e, h]
theorem invLen_clh (a : Addr) (args : Array Value) (w : World) (v : Value) (h : w.cell? (a.add 0) = some v) : (callMethod (.iface 160 (.pointer (some a))) "Len" args).run Try.prog w = .ok (.enter 173 (#[v] ++ args)) w := by
  have e : (callMethod (.iface 160 (.pointer (some a))) "Len" args).run Try.prog w = (match w.cell? (a.add 0) with
      | some v => .ok (.enter 173 (#[v] ++ args)) w
      | none => match w.farLoad Try.prog (a.add 0) false with
        | .ok (v, _) => .ok (.enter 173 (#[v] ++ args)) w
        | .error h => .halt h w) := by kernel_rfl
  rw [e, h]
theorem invLen_mcs (a : Addr) (args : Array Value) (w : World) (v : Value) (h : w.cell? (a.add 0) = some v) : (callMethod (.iface 163 (.pointer (some a))) "Len" args).run Try.prog w = .ok (.enter 173 (#[v] ++ args)) w := by
  have e : (callMethod (.iface 163 (.pointer (some a))) "Len" args).run Try.prog w = (match w.cell? (a.add 0) with
      | some v => .ok (.enter 173 (#[v] ++ args)) w
      | none => match w.farLoad Try.prog (a.add 0) false with
        | .ok (v, _) => .ok (.enter 173 (#[v] ++ args)) w
        | .error h => .halt h w) := by kernel_rfl
  rw [e, h]
theorem invLen_abort (a : Addr) (args : Array Value) (w : World) (v : Value) (h : w.cell? (a.add 0) = some v) : (callMethod (.iface 166 (.pointer (some a))) "Len" args).run Try.prog w = .ok (.enter 173 (#[v] ++ args)) w := by
  have e : (callMethod (.iface 166 (.pointer (some a))) "Len" args).run Try.prog w = (match w.cell? (a.add 0) with
      | some v => .ok (.enter 173 (#[v] ++ args)) w
      | none => match w.farLoad Try.prog (a.add 0) false with
        | .ok (v, _) => .ok (.enter 173 (#[v] ++ args)) w
        | .error h => .halt h w) := by kernel_rfl
  rw [e, h]
theorem invLen_hier (a : Addr) (args : Array Value) (w : World) (v : Value) (h : w.cell? (a.add 0) = some v) : (callMethod (.iface 169 (.pointer (some a))) "Len" args).run Try.prog w = .ok (.enter 173 (#[v] ++ args)) w := by
  have e : (callMethod (.iface 169 (.pointer (some a))) "Len" args).run Try.prog w = (match w.cell? (a.add 0) with
      | some v => .ok (.enter 173 (#[v] ++ args)) w
      | none => match w.farLoad Try.prog (a.add 0) false with
        | .ok (v, _) => .ok (.enter 173 (#[v] ++ args)) w
        | .error h => .halt h w) := by kernel_rfl
  rw [e, h]
theorem invLen_cohort (a : Addr) (args : Array Value) (w : World) (v : Value) (h : w.cell? (a.add 0) = some v) : (callMethod (.iface 78 (.pointer (some a))) "Len" args).run Try.prog w = .ok (.enter 173 (#[v] ++ args)) w := by
  have e : (callMethod (.iface 78 (.pointer (some a))) "Len" args).run Try.prog w = (match w.cell? (a.add 0) with
      | some v => .ok (.enter 173 (#[v] ++ args)) w
      | none => match w.farLoad Try.prog (a.add 0) false with
        | .ok (v, _) => .ok (.enter 173 (#[v] ++ args)) w
        | .error h => .halt h w) := by kernel_rfl
  rw [e, h]
end Go.Proofs.Ytmccmanekbiadaa
set_option linter.unusedSimpArgs false
set_option linter.unusedVariables false
namespace Go.Proofs.Ytmccmanekbiadaa
open Go Go.Sx

set_option maxRecDepth 8000 in
set_option maxHeartbeats 4000000 in
theorem news1_spec (m : Nat) (h : Nat → Int) (start : Nat) (slots pool budget glob loc : Int) (hz : checkZ 1 m h slots pool budget glob loc = 0) (h2 : 1 ≤ m ∧ m ≤ 64) (hb : anyZ badH h m = false)  :
    FSpec Try.prog 3 [(0, some (.ro 1 m (numE h)))] 1 [confA 1 0 m start slots pool budget glob loc] fun x h' k => x = sBool true ∧ k = 1 ∧ h' = [] := by
  have haw := awake17_spec
  have hR := lawRef_spec 1 m h start slots pool budget glob loc
  have hck := check_spec 1 m h start slots pool budget glob loc (by omega)
  rw [hz] at hck
  have hbn := buildNew1_ok h m start slots pool budget glob loc h2 hb
  have hrn := refNew1_spec m h start slots pool budget glob loc h2 hb
  have hsl := seatLen_spec m (fun _ => 0) (fun _ => -1) false true
  have hml := memLen_spec (2) (cutF (flatWs (fun _ => 0) 0 start) (2)) (flatHs (fun _ => 0) 0 h)
  have hth := portThreads_spec m
  refine spec_of_ev Try.func3 ic3_eq (rs := [.t 2]) (by kernel_rfl) (by kernel_rfl) (by kernel_rfl) fun G hP hA => ?_
  unfold evF ic3
  rw [← hP] at hrn
  conv => whnf
  refine dsplit (fun hq => absurd (show (80 : Int) < (m : Int) from hq) (by omega)) (fun _ => ?_)
  conv => whnf
  (refine call_auto hP (hbn) ?_; conv => whnf); (refine ⟨⟨rfl, rfl, rfl, has_a, rfl, rfl⟩, ?_⟩; conv => whnf)
  (refine call_auto hP (hR) ?_; conv => whnf); (refine ⟨⟨rfl, rfl, rfl, has_a, rfl, rfl⟩, ?_⟩; conv => whnf)
  (refine call_auto hP (hck) ?_; conv => whnf); (refine ⟨⟨rfl, rfl, rfl, has_a, rfl, rfl⟩, ?_⟩; conv => whnf)
  (refine call_auto hP (hR) ?_; conv => whnf); (refine ⟨⟨rfl, rfl, rfl, has_a, rfl, rfl⟩, ?_⟩; conv => whnf)
  refine callP_spec hrn [0] rfl rfl rfl has_a rfl fun x h' kk hq => ?_
  obtain ⟨⟨A, rfl⟩, rfl, rfl⟩ := hq
  refine ⟨rfl, ?_⟩
  conv => whnf
  (refine drawP_intro (by rw [hP]; exact follows) (by kernel_rfl) ?_; conv => whnf)
  refine invD_ghost (open_at 3 rfl (by decide) rfl rfl rfl) ?_
  refine invD_ghost (open_at 2 rfl (by decide) rfl rfl rfl) ?_
  refine invD_prom hP invLen_flat rfl rfl ?_
  conv => whnf
  (refine callD_auto hP (hsl) ?_; conv => whnf); (refine ⟨⟨rfl, rfl, rfl, has_a, rfl, rfl⟩, ?_⟩; conv => whnf)
  refine dsplit (fun _ => ?_) (fun hq => absurd (rfl : (m : Int) = (m : Int)) hq)
  conv => whnf
  (refine callD_auto hP (hml) ?_; conv => whnf); (refine ⟨⟨rfl, rfl, rfl, has_a, rfl, rfl⟩, ?_⟩; conv => whnf)
  (refine callD_auto hP (hth) ?_; conv => whnf); (refine ⟨⟨rfl, rfl, rfl, has_a, rfl, rfl⟩, ?_⟩; conv => whnf)
  refine dsplit (fun _ => ?_) (fun hq => absurd (rfl : (m : Int) = (m : Int)) hq)
  conv => whnf
  (refine callD_auto hP (haw) ?_; conv => whnf); (refine ⟨⟨rfl, rfl, rfl, has_a, rfl, rfl⟩, ?_⟩; conv => whnf)
  (repeat (refine And.intro (by (conv => whnf); first | exact ⟨rfl, rfl, rfl⟩ | (refine And.intro (by (first | omega | assumption | (simp only [nadd_eq]; omega) | (simp [nadd_eq]; omega))) ?_; (conv => whnf); exact ⟨rfl, rfl, rfl⟩)) ?_; conv => whnf))
  (refine fin_auto ?_; conv => whnf); exact ⟨rfl, rfl, rfl, rfl, has_a, rfl⟩
end Go.Proofs.Ytmccmanekbiadaa
set_option linter.unusedSimpArgs false
set_option linter.unusedVariables false
namespace Go.Proofs.Ytmccmanekbiadaa
open Go Go.Sx

set_option maxRecDepth 8000 in
set_option maxHeartbeats 4000000 in
theorem news2_spec (m : Nat) (h : Nat → Int) (start slots : Nat) (pool budget glob loc : Int) (hz : checkZ 2 m h slots pool budget glob loc = 0) (h2 : 1 ≤ m ∧ m ≤ 64) (hb : anyZ badH h m = false) (hu : start < 4294967296) (hn : isSize slots) (hmn : m ≤ slots) :
    FSpec Try.prog 3 [(0, some (.ro 1 m (numE h)))] 1 [confA 2 0 m start slots pool budget glob loc] fun x h' k => x = sBool true ∧ k = 1 ∧ h' = [] := by
  have haw := awake17_spec
  have hR := lawRef_spec 2 m h start slots pool budget glob loc
  have hck := check_spec 2 m h start slots pool budget glob loc (by omega)
  rw [hz] at hck
  have hbn := buildNew2_ok h m start slots pool budget glob loc h2 hu hn hmn hb
  have hrn := refNew2_spec m h start slots pool budget glob loc h2 hb hu (by unfold isSize at hn; omega)
  have hsl := seatLen_spec m (fun _ => 0) (fun _ => -1) false false
  have hml := memLen_spec (1 + slots) (cutF (slotsWs (fun _ => 0) 0 start slots) (1 + slots)) (slotsHs (fun _ => 0) 0 h m slots)
  have hth := portThreads_spec m
  refine spec_of_ev Try.func3 ic3_eq (rs := [.t 2]) (by kernel_rfl) (by kernel_rfl) (by kernel_rfl) fun G hP hA => ?_
  unfold evF ic3
  rw [← hP] at hrn
  conv => whnf
  refine dsplit (fun hq => absurd (show (80 : Int) < (m : Int) from hq) (by omega)) (fun _ => ?_)
  conv => whnf
  (refine call_auto hP (hbn) ?_; conv => whnf); (refine ⟨⟨rfl, rfl, rfl, has_a, rfl, rfl⟩, ?_⟩; conv => whnf)
  (refine call_auto hP (hR) ?_; conv => whnf); (refine ⟨⟨rfl, rfl, rfl, has_a, rfl, rfl⟩, ?_⟩; conv => whnf)
  (refine call_auto hP (hck) ?_; conv => whnf); (refine ⟨⟨rfl, rfl, rfl, has_a, rfl, rfl⟩, ?_⟩; conv => whnf)
  (refine call_auto hP (hR) ?_; conv => whnf); (refine ⟨⟨rfl, rfl, rfl, has_a, rfl, rfl⟩, ?_⟩; conv => whnf)
  refine callP_spec hrn [0] rfl rfl rfl has_a rfl fun x h' kk hq => ?_
  obtain ⟨⟨A, rfl⟩, rfl, rfl⟩ := hq
  refine ⟨rfl, ?_⟩
  conv => whnf
  (refine drawP_intro (by rw [hP]; exact follows) (by kernel_rfl) ?_; conv => whnf)
  refine invD_ghost (open_at 3 rfl (by decide) rfl rfl rfl) ?_
  refine invD_ghost (open_at 2 rfl (by decide) rfl rfl rfl) ?_
  refine invD_prom hP invLen_slots rfl rfl ?_
  conv => whnf
  (refine callD_auto hP (hsl) ?_; conv => whnf); (refine ⟨⟨rfl, rfl, rfl, has_a, rfl, rfl⟩, ?_⟩; conv => whnf)
  refine dsplit (fun _ => ?_) (fun hq => absurd (rfl : (m : Int) = (m : Int)) hq)
  conv => whnf
  (refine callD_auto hP (hml) ?_; conv => whnf); (refine ⟨⟨rfl, rfl, rfl, has_a, rfl, rfl⟩, ?_⟩; conv => whnf)
  refine dsplit (fun _ => ?_) (fun hq => absurd (show ((1 + slots : Nat) : Int) = ((slots + 1 : Nat) : Int) by congr 1; first | omega | (rw [Nat.mul_right_comm]; omega)) hq)
  conv => whnf
  (refine callD_auto hP (hth) ?_; conv => whnf); (refine ⟨⟨rfl, rfl, rfl, has_a, rfl, rfl⟩, ?_⟩; conv => whnf)
  refine dsplit (fun _ => ?_) (fun hq => absurd (rfl : (m : Int) = (m : Int)) hq)
  conv => whnf
  (refine callD_auto hP (haw) ?_; conv => whnf); (refine ⟨⟨rfl, rfl, rfl, has_a, rfl, rfl⟩, ?_⟩; conv => whnf)
  (repeat (refine And.intro (by (conv => whnf); first | exact ⟨rfl, rfl, rfl⟩ | (refine And.intro (by (first | omega | assumption | (simp only [nadd_eq]; omega) | (simp [nadd_eq]; omega))) ?_; (conv => whnf); exact ⟨rfl, rfl, rfl⟩)) ?_; conv => whnf))
  (refine fin_auto ?_; conv => whnf); exact ⟨rfl, rfl, rfl, rfl, has_a, rfl⟩
end Go.Proofs.Ytmccmanekbiadaa
set_option linter.unusedSimpArgs false
set_option linter.unusedVariables false
namespace Go.Proofs.Ytmccmanekbiadaa
open Go Go.Sx

set_option maxRecDepth 8000 in
set_option maxHeartbeats 4000000 in
theorem news3_spec (m : Nat) (h : Nat → Int) (start : Nat) (slots pool budget glob loc : Int) (hz : checkZ 3 m h slots pool budget glob loc = 0) (h2 : 1 ≤ m ∧ m ≤ 64) (hb : anyZ badH h m = false)  :
    FSpec Try.prog 3 [(0, some (.ro 1 m (numE h)))] 1 [confA 3 0 m start slots pool budget glob loc] fun x h' k => x = sBool true ∧ k = 1 ∧ h' = [] := by
  have haw := awake17_spec
  have hR := lawRef_spec 3 m h start slots pool budget glob loc
  have hck := check_spec 3 m h start slots pool budget glob loc (by omega)
  rw [hz] at hck
  have hbn := buildNew3_ok h m start slots pool budget glob loc h2 hb
  have hrn := refNew3_spec m h start slots pool budget glob loc h2 hb
  have hsl := seatLen_spec m (fun _ => 0) (fun _ => -1) false true
  have hml := memLen_spec (2 + m) (cutF (clhWs (fun _ => 0) 0 m) (2 + m)) (clhHs (fun _ => 0) 0 h m)
  have hth := portThreads_spec m
  refine spec_of_ev Try.func3 ic3_eq (rs := [.t 2]) (by kernel_rfl) (by kernel_rfl) (by kernel_rfl) fun G hP hA => ?_
  unfold evF ic3
  rw [← hP] at hrn
  conv => whnf
  refine dsplit (fun hq => absurd (show (80 : Int) < (m : Int) from hq) (by omega)) (fun _ => ?_)
  conv => whnf
  (refine call_auto hP (hbn) ?_; conv => whnf); (refine ⟨⟨rfl, rfl, rfl, has_a, rfl, rfl⟩, ?_⟩; conv => whnf)
  (refine call_auto hP (hR) ?_; conv => whnf); (refine ⟨⟨rfl, rfl, rfl, has_a, rfl, rfl⟩, ?_⟩; conv => whnf)
  (refine call_auto hP (hck) ?_; conv => whnf); (refine ⟨⟨rfl, rfl, rfl, has_a, rfl, rfl⟩, ?_⟩; conv => whnf)
  (refine call_auto hP (hR) ?_; conv => whnf); (refine ⟨⟨rfl, rfl, rfl, has_a, rfl, rfl⟩, ?_⟩; conv => whnf)
  refine callP_spec hrn [0] rfl rfl rfl has_a rfl fun x h' kk hq => ?_
  obtain ⟨⟨A, rfl⟩, rfl, rfl⟩ := hq
  refine ⟨rfl, ?_⟩
  conv => whnf
  (refine drawP_intro (by rw [hP]; exact follows) (by kernel_rfl) ?_; conv => whnf)
  refine invD_ghost (open_at 3 rfl (by decide) rfl rfl rfl) ?_
  refine invD_ghost (open_at 2 rfl (by decide) rfl rfl rfl) ?_
  refine invD_prom hP invLen_clh rfl rfl ?_
  conv => whnf
  (refine callD_auto hP (hsl) ?_; conv => whnf); (refine ⟨⟨rfl, rfl, rfl, has_a, rfl, rfl⟩, ?_⟩; conv => whnf)
  refine dsplit (fun _ => ?_) (fun hq => absurd (rfl : (m : Int) = (m : Int)) hq)
  conv => whnf
  (refine callD_auto hP (hml) ?_; conv => whnf); (refine ⟨⟨rfl, rfl, rfl, has_a, rfl, rfl⟩, ?_⟩; conv => whnf)
  refine dsplit (fun _ => ?_) (fun hq => absurd (show ((2 + m : Nat) : Int) = ((m + 2 : Nat) : Int) by congr 1; first | omega | (rw [Nat.mul_right_comm]; omega)) hq)
  conv => whnf
  (refine callD_auto hP (hth) ?_; conv => whnf); (refine ⟨⟨rfl, rfl, rfl, has_a, rfl, rfl⟩, ?_⟩; conv => whnf)
  refine dsplit (fun _ => ?_) (fun hq => absurd (rfl : (m : Int) = (m : Int)) hq)
  conv => whnf
  (refine callD_auto hP (haw) ?_; conv => whnf); (refine ⟨⟨rfl, rfl, rfl, has_a, rfl, rfl⟩, ?_⟩; conv => whnf)
  (repeat (refine And.intro (by (conv => whnf); first | exact ⟨rfl, rfl, rfl⟩ | (refine And.intro (by (first | omega | assumption | (simp only [nadd_eq]; omega) | (simp [nadd_eq]; omega))) ?_; (conv => whnf); exact ⟨rfl, rfl, rfl⟩)) ?_; conv => whnf))
  (refine fin_auto ?_; conv => whnf); exact ⟨rfl, rfl, rfl, rfl, has_a, rfl⟩
end Go.Proofs.Ytmccmanekbiadaa
set_option linter.unusedSimpArgs false
set_option linter.unusedVariables false
namespace Go.Proofs.Ytmccmanekbiadaa
open Go Go.Sx

set_option maxRecDepth 8000 in
set_option maxHeartbeats 4000000 in
theorem news4_spec (m : Nat) (h : Nat → Int) (start : Nat) (slots pool budget glob loc : Int) (hz : checkZ 4 m h slots pool budget glob loc = 0) (h2 : 1 ≤ m ∧ m ≤ 64) (hb : anyZ badH h m = false)  :
    FSpec Try.prog 3 [(0, some (.ro 1 m (numE h)))] 1 [confA 4 0 m start slots pool budget glob loc] fun x h' k => x = sBool true ∧ k = 1 ∧ h' = [] := by
  have haw := awake17_spec
  have hR := lawRef_spec 4 m h start slots pool budget glob loc
  have hck := check_spec 4 m h start slots pool budget glob loc (by omega)
  rw [hz] at hck
  have hbn := buildNew4_ok h m start slots pool budget glob loc h2 hb
  have hrn := refNew4_spec m h start slots pool budget glob loc h2 hb
  have hsl := seatLen_spec m (fun _ => 0) (fun _ => -1) false true
  have hml := memLen_spec (1 + 2 * m) (cutF (mcsWs (fun _ => 0) 0 m) (1 + 2 * m)) (mcsHs (fun _ => 0) 0 h m)
  have hth := portThreads_spec m
  refine spec_of_ev Try.func3 ic3_eq (rs := [.t 2]) (by kernel_rfl) (by kernel_rfl) (by kernel_rfl) fun G hP hA => ?_
  unfold evF ic3
  rw [← hP] at hrn
  conv => whnf
  refine dsplit (fun hq => absurd (show (80 : Int) < (m : Int) from hq) (by omega)) (fun _ => ?_)
  conv => whnf
  (refine call_auto hP (hbn) ?_; conv => whnf); (refine ⟨⟨rfl, rfl, rfl, has_a, rfl, rfl⟩, ?_⟩; conv => whnf)
  (refine call_auto hP (hR) ?_; conv => whnf); (refine ⟨⟨rfl, rfl, rfl, has_a, rfl, rfl⟩, ?_⟩; conv => whnf)
  (refine call_auto hP (hck) ?_; conv => whnf); (refine ⟨⟨rfl, rfl, rfl, has_a, rfl, rfl⟩, ?_⟩; conv => whnf)
  (refine call_auto hP (hR) ?_; conv => whnf); (refine ⟨⟨rfl, rfl, rfl, has_a, rfl, rfl⟩, ?_⟩; conv => whnf)
  refine callP_spec hrn [0] rfl rfl rfl has_a rfl fun x h' kk hq => ?_
  obtain ⟨⟨A, rfl⟩, rfl, rfl⟩ := hq
  refine ⟨rfl, ?_⟩
  conv => whnf
  (refine drawP_intro (by rw [hP]; exact follows) (by kernel_rfl) ?_; conv => whnf)
  refine invD_ghost (open_at 3 rfl (by decide) rfl rfl rfl) ?_
  refine invD_ghost (open_at 2 rfl (by decide) rfl rfl rfl) ?_
  refine invD_prom hP invLen_mcs rfl rfl ?_
  conv => whnf
  (refine callD_auto hP (hsl) ?_; conv => whnf); (refine ⟨⟨rfl, rfl, rfl, has_a, rfl, rfl⟩, ?_⟩; conv => whnf)
  refine dsplit (fun _ => ?_) (fun hq => absurd (rfl : (m : Int) = (m : Int)) hq)
  conv => whnf
  (refine callD_auto hP (hml) ?_; conv => whnf); (refine ⟨⟨rfl, rfl, rfl, has_a, rfl, rfl⟩, ?_⟩; conv => whnf)
  refine dsplit (fun _ => ?_) (fun hq => absurd (show ((1 + 2 * m : Nat) : Int) = ((2 * m + 1 : Nat) : Int) by congr 1; first | omega | (rw [Nat.mul_right_comm]; omega)) hq)
  conv => whnf
  (refine callD_auto hP (hth) ?_; conv => whnf); (refine ⟨⟨rfl, rfl, rfl, has_a, rfl, rfl⟩, ?_⟩; conv => whnf)
  refine dsplit (fun _ => ?_) (fun hq => absurd (rfl : (m : Int) = (m : Int)) hq)
  conv => whnf
  (refine callD_auto hP (haw) ?_; conv => whnf); (refine ⟨⟨rfl, rfl, rfl, has_a, rfl, rfl⟩, ?_⟩; conv => whnf)
  (repeat (refine And.intro (by (conv => whnf); first | exact ⟨rfl, rfl, rfl⟩ | (refine And.intro (by (first | omega | assumption | (simp only [nadd_eq]; omega) | (simp [nadd_eq]; omega))) ?_; (conv => whnf); exact ⟨rfl, rfl, rfl⟩)) ?_; conv => whnf))
  (refine fin_auto ?_; conv => whnf); exact ⟨rfl, rfl, rfl, rfl, has_a, rfl⟩
end Go.Proofs.Ytmccmanekbiadaa
set_option linter.unusedSimpArgs false
set_option linter.unusedVariables false
namespace Go.Proofs.Ytmccmanekbiadaa
open Go Go.Sx

set_option maxRecDepth 8000 in
set_option maxHeartbeats 4000000 in
theorem news5_spec (m : Nat) (h : Nat → Int) (start : Nat) (slots : Int) (pool : Nat) (budget glob loc : Int) (hz : checkZ 5 m h slots pool budget glob loc = 0) (h2 : 1 ≤ m ∧ m ≤ 64) (hb : anyZ badH h m = false) (hp : 1 ≤ pool ∧ pool ≤ 8) :
    FSpec Try.prog 3 [(0, some (.ro 1 m (numE h)))] 1 [confA 5 0 m start slots pool budget glob loc] fun x h' k => x = sBool true ∧ k = 1 ∧ h' = [] := by
  have haw := awake17_spec
  have hR := lawRef_spec 5 m h start slots pool budget glob loc
  have hck := check_spec 5 m h start slots pool budget glob loc (by omega)
  rw [hz] at hck
  have hbn := buildNew5_ok h m pool start slots budget glob loc h2 hp hb
  have hrn := refNew5_spec m h pool start slots budget glob loc h2 hb hp
  have hsl := seatLen_spec m (fun _ => 0) (fun _ => -1) true false
  have hml := memLen_spec (1 + 3 * pool * m) (cutF (abortWs (fun _ => 0) 0 pool m) (1 + 3 * pool * m)) (abortHs (fun _ => 0) 0 pool h m)
  have hth := portThreads_spec m
  refine spec_of_ev Try.func3 ic3_eq (rs := [.t 2]) (by kernel_rfl) (by kernel_rfl) (by kernel_rfl) fun G hP hA => ?_
  unfold evF ic3
  rw [← hP] at hrn
  conv => whnf
  refine dsplit (fun hq => absurd (show (80 : Int) < (m : Int) from hq) (by omega)) (fun _ => ?_)
  conv => whnf
  (refine call_auto hP (hbn) ?_; conv => whnf); (refine ⟨⟨rfl, rfl, rfl, has_a, rfl, rfl⟩, ?_⟩; conv => whnf)
  (refine call_auto hP (hR) ?_; conv => whnf); (refine ⟨⟨rfl, rfl, rfl, has_a, rfl, rfl⟩, ?_⟩; conv => whnf)
  (refine call_auto hP (hck) ?_; conv => whnf); (refine ⟨⟨rfl, rfl, rfl, has_a, rfl, rfl⟩, ?_⟩; conv => whnf)
  (refine call_auto hP (hR) ?_; conv => whnf); (refine ⟨⟨rfl, rfl, rfl, has_a, rfl, rfl⟩, ?_⟩; conv => whnf)
  refine callP_spec hrn [0] rfl rfl rfl has_a rfl fun x h' kk hq => ?_
  obtain ⟨⟨A, rfl⟩, rfl, rfl⟩ := hq
  refine ⟨rfl, ?_⟩
  conv => whnf
  (refine drawP_intro (by rw [hP]; exact follows) (by kernel_rfl) ?_; conv => whnf)
  refine invD_ghost (open_at 3 rfl (by decide) rfl rfl rfl) ?_
  refine invD_ghost (open_at 2 rfl (by decide) rfl rfl rfl) ?_
  refine invD_prom hP invLen_abort rfl rfl ?_
  conv => whnf
  (refine callD_auto hP (hsl) ?_; conv => whnf); (refine ⟨⟨rfl, rfl, rfl, has_a, rfl, rfl⟩, ?_⟩; conv => whnf)
  refine dsplit (fun _ => ?_) (fun hq => absurd (rfl : (m : Int) = (m : Int)) hq)
  conv => whnf
  (refine callD_auto hP (hml) ?_; conv => whnf); (refine ⟨⟨rfl, rfl, rfl, has_a, rfl, rfl⟩, ?_⟩; conv => whnf)
  refine dsplit (fun _ => ?_) (fun hq => absurd (show ((1 + 3 * pool * m : Nat) : Int) = ((3 * m * pool + 1 : Nat) : Int) by congr 1; first | omega | (rw [Nat.mul_right_comm]; omega)) hq)
  conv => whnf
  (refine callD_auto hP (hth) ?_; conv => whnf); (refine ⟨⟨rfl, rfl, rfl, has_a, rfl, rfl⟩, ?_⟩; conv => whnf)
  refine dsplit (fun _ => ?_) (fun hq => absurd (rfl : (m : Int) = (m : Int)) hq)
  conv => whnf
  (refine callD_auto hP (haw) ?_; conv => whnf); (refine ⟨⟨rfl, rfl, rfl, has_a, rfl, rfl⟩, ?_⟩; conv => whnf)
  (repeat (refine And.intro (by (conv => whnf); first | exact ⟨rfl, rfl, rfl⟩ | (refine And.intro (by (first | omega | assumption | (simp only [nadd_eq]; omega) | (simp [nadd_eq]; omega))) ?_; (conv => whnf); exact ⟨rfl, rfl, rfl⟩)) ?_; conv => whnf))
  (refine fin_auto ?_; conv => whnf); exact ⟨rfl, rfl, rfl, rfl, has_a, rfl⟩
end Go.Proofs.Ytmccmanekbiadaa
set_option linter.unusedSimpArgs false
set_option linter.unusedVariables false
namespace Go.Proofs.Ytmccmanekbiadaa
open Go Go.Sx

set_option maxRecDepth 8000 in
set_option maxHeartbeats 4000000 in
theorem news6_spec (m : Nat) (h : Nat → Int) (start : Nat) (slots pool budget glob loc : Int) (hz : checkZ 6 m h slots pool budget glob loc = 0) (h2 : 1 ≤ m ∧ m ≤ 64) (hb : anyZ badH h m = false)  :
    FSpec Try.prog 3 [(0, some (.ro 1 m (numE h)))] 1 [confA 6 0 m start slots pool budget glob loc] fun x h' k => x = sBool true ∧ k = 1 ∧ h' = [] := by
  have haw := awake17_spec
  have hR := lawRef_spec 6 m h start slots pool budget glob loc
  have hck := check_spec 6 m h start slots pool budget glob loc (by omega)
  rw [hz] at hck
  have hbn := buildNew6_ok h m start slots pool budget glob loc h2 hb
  have hrn := refNew6_spec m h start slots pool budget glob loc h2 hb
  have hsl := seatLen_spec m (fun _ => 0) (fun _ => -1) false false
  have hml := memLen_spec (10 + m) (cutF (hierWs (fun _ => 0) 0 m) (10 + m)) (hierHs (fun _ => 0) 0 h m)
  have hth := portThreads_spec m
  refine spec_of_ev Try.func3 ic3_eq (rs := [.t 2]) (by kernel_rfl) (by kernel_rfl) (by kernel_rfl) fun G hP hA => ?_
  unfold evF ic3
  rw [← hP] at hrn
  conv => whnf
  refine dsplit (fun hq => absurd (show (80 : Int) < (m : Int) from hq) (by omega)) (fun _ => ?_)
  conv => whnf
  (refine call_auto hP (hbn) ?_; conv => whnf); (refine ⟨⟨rfl, rfl, rfl, has_a, rfl, rfl⟩, ?_⟩; conv => whnf)
  (refine call_auto hP (hR) ?_; conv => whnf); (refine ⟨⟨rfl, rfl, rfl, has_a, rfl, rfl⟩, ?_⟩; conv => whnf)
  (refine call_auto hP (hck) ?_; conv => whnf); (refine ⟨⟨rfl, rfl, rfl, has_a, rfl, rfl⟩, ?_⟩; conv => whnf)
  (refine call_auto hP (hR) ?_; conv => whnf); (refine ⟨⟨rfl, rfl, rfl, has_a, rfl, rfl⟩, ?_⟩; conv => whnf)
  refine callP_spec hrn [0] rfl rfl rfl has_a rfl fun x h' kk hq => ?_
  obtain ⟨⟨A, rfl⟩, rfl, rfl⟩ := hq
  refine ⟨rfl, ?_⟩
  conv => whnf
  (refine drawP_intro (by rw [hP]; exact follows) (by kernel_rfl) ?_; conv => whnf)
  refine invD_ghost (open_at 3 rfl (by decide) rfl rfl rfl) ?_
  refine invD_ghost (open_at 2 rfl (by decide) rfl rfl rfl) ?_
  refine invD_prom hP invLen_hier rfl rfl ?_
  conv => whnf
  (refine callD_auto hP (hsl) ?_; conv => whnf); (refine ⟨⟨rfl, rfl, rfl, has_a, rfl, rfl⟩, ?_⟩; conv => whnf)
  refine dsplit (fun _ => ?_) (fun hq => absurd (rfl : (m : Int) = (m : Int)) hq)
  conv => whnf
  (refine callD_auto hP (hml) ?_; conv => whnf); (refine ⟨⟨rfl, rfl, rfl, has_a, rfl, rfl⟩, ?_⟩; conv => whnf)
  refine dsplit (fun _ => ?_) (fun hq => absurd (show ((10 + m : Nat) : Int) = ((m + 10 : Nat) : Int) by congr 1; first | omega | (rw [Nat.mul_right_comm]; omega)) hq)
  conv => whnf
  (refine callD_auto hP (hth) ?_; conv => whnf); (refine ⟨⟨rfl, rfl, rfl, has_a, rfl, rfl⟩, ?_⟩; conv => whnf)
  refine dsplit (fun _ => ?_) (fun hq => absurd (rfl : (m : Int) = (m : Int)) hq)
  conv => whnf
  (refine callD_auto hP (haw) ?_; conv => whnf); (refine ⟨⟨rfl, rfl, rfl, has_a, rfl, rfl⟩, ?_⟩; conv => whnf)
  (repeat (refine And.intro (by (conv => whnf); first | exact ⟨rfl, rfl, rfl⟩ | (refine And.intro (by (first | omega | assumption | (simp only [nadd_eq]; omega) | (simp [nadd_eq]; omega))) ?_; (conv => whnf); exact ⟨rfl, rfl, rfl⟩)) ?_; conv => whnf))
  (refine fin_auto ?_; conv => whnf); exact ⟨rfl, rfl, rfl, rfl, has_a, rfl⟩
end Go.Proofs.Ytmccmanekbiadaa
set_option linter.unusedSimpArgs false
set_option linter.unusedVariables false
namespace Go.Proofs.Ytmccmanekbiadaa
open Go Go.Sx

set_option maxRecDepth 8000 in
set_option maxHeartbeats 4000000 in
theorem news7_spec (m : Nat) (h : Nat → Int) (start : Nat) (slots pool budget : Int) (glob loc : Nat) (hz : checkZ 7 m h slots pool budget glob loc = 0) (h2 : 1 ≤ m ∧ m ≤ 64) (hb : anyZ badH h m = false) (hg : glob = 1 ∨ glob = 4) (hl : isIn loc) (hbu : 1 ≤ budget ∧ budget ≤ 1000) :
    FSpec Try.prog 3 [(0, some (.ro 1 m (numE h)))] 1 [confA 7 0 m start slots pool budget glob loc] fun x h' k => x = sBool true ∧ k = 1 ∧ h' = [] := by
  have haw := awake17_spec
  have hR := lawRef_spec 7 m h start slots pool budget glob loc
  have hck := check_spec 7 m h start slots pool budget glob loc (by omega)
  rw [hz] at hck
  have hbn := buildNew7_ok h m glob loc start slots pool budget h2 hb hg hl hbu
  have hrn := refNew7_spec m h glob loc start slots pool budget h2 hb (by unfold isIn; omega) hl
  have hsl := seatLen_spec m (fun _ => 0) (fun _ => -1) false false
  have hml := memLen_spec (cohN m glob loc h) (cutF (cohWs m glob loc h) (cohN m glob loc h)) (cohHs m glob loc h)
  have hth := portThreads_spec m
  refine spec_of_ev Try.func3 ic3_eq (rs := [.t 2]) (by kernel_rfl) (by kernel_rfl) (by kernel_rfl) fun G hP hA => ?_
  unfold evF ic3
  rw [← hP] at hrn
  conv => whnf
  refine dsplit (fun hq => absurd (show (80 : Int) < (m : Int) from hq) (by omega)) (fun _ => ?_)
  conv => whnf
  (refine call_auto hP (hbn) ?_; conv => whnf); (refine ⟨⟨rfl, rfl, rfl, has_a, rfl, rfl⟩, ?_⟩; conv => whnf)
  (refine call_auto hP (hR) ?_; conv => whnf); (refine ⟨⟨rfl, rfl, rfl, has_a, rfl, rfl⟩, ?_⟩; conv => whnf)
  (refine call_auto hP (hck) ?_; conv => whnf); (refine ⟨⟨rfl, rfl, rfl, has_a, rfl, rfl⟩, ?_⟩; conv => whnf)
  (refine call_auto hP (hR) ?_; conv => whnf); (refine ⟨⟨rfl, rfl, rfl, has_a, rfl, rfl⟩, ?_⟩; conv => whnf)
  refine callP_spec hrn [0] rfl rfl rfl has_a rfl fun x h' kk hq => ?_
  obtain ⟨⟨A, rfl⟩, rfl, rfl⟩ := hq
  refine ⟨rfl, ?_⟩
  conv => whnf
  (refine drawP_intro (by rw [hP]; exact follows) (by kernel_rfl) ?_; conv => whnf)
  refine invD_ghost (open_at 3 rfl (by decide) rfl rfl rfl) ?_
  refine invD_ghost (open_at 2 rfl (by decide) rfl rfl rfl) ?_
  refine invD_prom hP invLen_cohort rfl rfl ?_
  conv => whnf
  (refine callD_auto hP (hsl) ?_; conv => whnf); (refine ⟨⟨rfl, rfl, rfl, has_a, rfl, rfl⟩, ?_⟩; conv => whnf)
  refine dsplit (fun _ => ?_) (fun hq => absurd (rfl : (m : Int) = (m : Int)) hq)
  conv => whnf
  (refine callD_auto hP (hml) ?_; conv => whnf); (refine ⟨⟨rfl, rfl, rfl, has_a, rfl, rfl⟩, ?_⟩; conv => whnf)
  refine dsplit (fun _ => ?_) (fun hq => absurd rfl hq)
  conv => whnf
  (refine callD_auto hP (hth) ?_; conv => whnf); (refine ⟨⟨rfl, rfl, rfl, has_a, rfl, rfl⟩, ?_⟩; conv => whnf)
  refine dsplit (fun _ => ?_) (fun hq => absurd (rfl : (m : Int) = (m : Int)) hq)
  conv => whnf
  (refine callD_auto hP (haw) ?_; conv => whnf); (refine ⟨⟨rfl, rfl, rfl, has_a, rfl, rfl⟩, ?_⟩; conv => whnf)
  (repeat (refine And.intro (by (conv => whnf); first | exact ⟨rfl, rfl, rfl⟩ | (refine And.intro (by (first | omega | assumption | (simp only [nadd_eq]; omega) | (simp [nadd_eq]; omega))) ?_; (conv => whnf); exact ⟨rfl, rfl, rfl⟩)) ?_; conv => whnf))
  (refine fin_auto ?_; conv => whnf); exact ⟨rfl, rfl, rfl, rfl, has_a, rfl⟩
end Go.Proofs.Ytmccmanekbiadaa
set_option linter.unusedSimpArgs false
set_option linter.unusedVariables false
namespace Go.Proofs.Ytmccmanekbiadaa
open Go Go.Sx

set_option maxRecDepth 8000 in
theorem news8_spec (kind : Int) (m : Nat) (h : Nat → Int) (start : Nat) (slots pool budget glob loc : Int) (hm : m ≤ 80) (hc : checkZ kind m h slots pool budget glob loc ≠ 0) :
    FSpec Try.prog 3 [(0, some (.ro 1 m (numE h)))] 1 [confA kind 0 m start slots pool budget glob loc] fun x h' k => x = sBool true ∧ k = 1 ∧ h' = [] := by
  have haw := awake17_spec
  have hR := lawRef_spec kind m h start slots pool budget glob loc
  have hck := check_spec kind m h start slots pool budget glob loc (by omega)
  have hbn := buildNew_err kind m h start slots pool budget glob loc hm hc
  refine spec_of_ev Try.func3 ic3_eq (rs := [.t 2]) (by kernel_rfl) (by kernel_rfl) (by kernel_rfl) fun G hP hA => ?_
  unfold evF ic3
  conv => whnf
  refine dsplit (fun hq => absurd (show (80 : Int) < (m : Int) from hq) (by omega)) (fun _ => ?_)
  conv => whnf
  (refine call_auto hP (hbn) ?_; conv => whnf); (refine ⟨⟨rfl, rfl, rfl, has_a, rfl, rfl⟩, ?_⟩; conv => whnf)
  (refine call_auto hP (hR) ?_; conv => whnf); (refine ⟨⟨rfl, rfl, rfl, has_a, rfl, rfl⟩, ?_⟩; conv => whnf)
  (refine call_auto hP (hck) ?_; conv => whnf); (refine ⟨⟨rfl, rfl, rfl, has_a, rfl, rfl⟩, ?_⟩; conv => whnf)
  refine dsplit (fun _ => ?_) (fun h1 => absurd (show checkZ kind m h slots pool budget glob loc ≠ 0 from hc) h1)
  conv => whnf
  refine dsplit (fun _ => ?_) (fun h1 => absurd (rfl : checkZ kind m h slots pool budget glob loc = checkZ kind m h slots pool budget glob loc) h1)
  conv => whnf
  (refine call_auto hP (haw) ?_; conv => whnf); (refine ⟨⟨rfl, rfl, rfl, has_a, rfl, rfl⟩, ?_⟩; conv => whnf)
  (refine fin_auto ?_; conv => whnf); exact ⟨rfl, rfl, rfl, rfl, has_a, rfl⟩
theorem news9_spec (kind : Int) (m : Nat) (h : Nat → Int) (start : Nat) (slots pool budget glob loc : Int) (h80 : 80 < m) :
    FSpec Try.prog 3 [(0, some (.ro 1 m (numE h)))] 1 [confA kind 0 m start slots pool budget glob loc] fun x h' k => x = sBool true ∧ k = 1 ∧ h' = [] := by
  have haw := awake17_spec
  refine spec_of_ev Try.func3 ic3_eq (rs := [.t 2]) (by kernel_rfl) (by kernel_rfl) (by kernel_rfl) fun G hP hA => ?_
  unfold evF ic3
  conv => whnf
  refine dsplit (fun _ => ?_) (fun hq => absurd (show (80 : Int) < (m : Int) by omega) hq)
  conv => whnf
  (refine call_auto hP (haw) ?_; conv => whnf); (refine ⟨⟨rfl, rfl, rfl, has_a, rfl, rfl⟩, ?_⟩; conv => whnf)
  (refine fin_auto ?_; conv => whnf); exact ⟨rfl, rfl, rfl, rfl, has_a, rfl⟩
end Go.Proofs.Ytmccmanekbiadaa
set_option linter.unusedSimpArgs false
set_option linter.unusedVariables false
namespace Go.Proofs.Ytmccmanekbiadaa
open Go Go.Sx

theorem news_spec (kind : Int) (m : Nat) (h : Nat → Int) (start : Nat) (slots pool budget glob loc : Int) (hs : start < 4294967296) :
    FSpec Try.prog 3 [(0, some (.ro 1 m (numE h)))] 1 [confA kind 0 m start slots pool budget glob loc] fun x h' k => x = sBool true := by
  refine FSpec.mono (Q := fun x h' k => x = sBool true ∧ k = 1 ∧ h' = []) ?_ fun x h k hx => hx.1
  by_cases h80 : 80 < m
  · exact news9_spec kind m h start slots pool budget glob loc h80
  by_cases hc : checkZ kind m h slots pool budget glob loc = 0
  · obtain ⟨h1, h2, hb, h3, h5, h7⟩ := checkZ_range hc
    rcases (show kind = 1 ∨ kind = 2 ∨ kind = 3 ∨ kind = 4 ∨ kind = 5 ∨ kind = 6 ∨ kind = 7 by omega) with rfl | rfl | rfl | rfl | rfl | rfl | rfl
    · exact news1_spec m h start slots pool budget glob loc hc h2 hb
    · obtain ⟨hs1, hs2⟩ := h3 rfl
      obtain ⟨n, rfl, hn⟩ := sizeB_is hs1
      exact news2_spec m h start n pool budget glob loc hc h2 hb hs hn (by omega)
    · exact news3_spec m h start slots pool budget glob loc hc h2 hb
    · exact news4_spec m h start slots pool budget glob loc hc h2 hb
    · have h5 := h5 rfl
      obtain ⟨n, rfl⟩ : ∃ n : Nat, pool = n := ⟨pool.toNat, by omega⟩
      exact news5_spec m h start slots n budget glob loc hc h2 hb (by omega)
    · exact news6_spec m h start slots pool budget glob loc hc h2 hb
    · obtain ⟨hg, hl, hbu⟩ := h7 rfl
      obtain ⟨g, rfl⟩ : ∃ g : Nat, glob = g := ⟨glob.toNat, by omega⟩
      obtain ⟨l, rfl⟩ : ∃ l : Nat, loc = l := ⟨loc.toNat, by omega⟩
      exact news7_spec m h start slots pool budget g l hc h2 hb (by omega) (by unfold isIn; omega) hbu
  · exact news8_spec kind m h start slots pool budget glob loc (by omega) hc
end Go.Proofs.Ytmccmanekbiadaa
