/- Build*: the document's examples. · BuildNews: what the walk calls (methods promoted through an embedded pointer). · Locks' steps: what a memory, a cache and a port do. · Locks' steps: what a cache and a port do. · Locks' steps: a port's accesses. · Locks' steps: a port's operations. · Locks' steps: seats; the lock of kind 1. · Locks' steps: the end of a step; the flat lock's first two steps. · Locks' steps: a call for a lock. · BuildNews: machines: what is told of one that is new. · BuildNews: machines of kind 1. · BuildNews: machines of kind 2. · BuildNews: machines of kind 3. · BuildNews: machines of kind 4. · BuildNews: machines of kind 5. · BuildNews: machines of kind 6. · BuildNews: machines of kind 7. · BuildNews: what is no machine. · Machines: an entry. · Machines with a flat lock: a call, the first two steps. · Machines with a flat lock: events. · Machines: the document's example. · Machines: the document's example, run. · Machines: the document's example comes true. · BuildNews: MachineNews, kind 1. · BuildNews: MachineNews, kind 2. · BuildNews: MachineNews, kind 3. · BuildNews: MachineNews, kind 4. · BuildNews: MachineNews, kind 5. · BuildNews: MachineNews, kind 6. · BuildNews: MachineNews, kind 7. · BuildNews: MachineNews, the rest. · MachineNews: the whole. -/
import Derived.Test.YtlkfolopbehikaaGreatMa
import Derived.Test.YtlkfolopbehikaaGreatSxPT
import Derived.Test.YtlkfolopbehikaaGreatMb
set_option linter.unusedSimpArgs false
set_option linter.unusedVariables false
namespace Go.Proofs.YtlkfolopbehikaaGreat
open Go Go.Sx

theorem memLen_spec (n : Nat) (ws hs : Nat → Int) : FSpec Tryz.prog 62 [(0, some (memP n ws hs))] 1 [.l (.p 0 0 0 0)] fun x h k => x = sInt .i64 (n : Int) ∧ k = 1 ∧ h = [(0, some (memP n ws hs))] := by
  refine spec_of_ev_g (open_spec (memH n ws hs) 3 0 (by omega)) Tryz.func62 ic62_eq (rs := [.t 2]) (by kernel_rfl) (by kernel_rfl) (by kernel_rfl) fun G hP hA => ?_
  unfold evF ic62
  conv => whnf
  (refine fin_close (H := (memH n ws hs)) (np := 3) 0 0 (Nat.le_of_ble_eq_true rfl) ?_; conv => whnf); (refine ⟨⟨rfl, by omega, rfl, rfl, has_a, rfl⟩, ?_⟩)
  (refine fin_auto ?_; conv => whnf); exact ⟨rfl, rfl, rfl, rfl, has_a, rfl⟩
end Go.Proofs.YtlkfolopbehikaaGreat
set_option linter.unusedSimpArgs false
set_option linter.unusedVariables false
namespace Go.Proofs.YtlkfolopbehikaaGreat
open Go Go.Sx

theorem inv_promc {P : Program} {G : Ctx} {t : TypeId} {name : String} {fid : FuncId} {k c k2 : Nat} {cs : List LV} {xs : List AV} {h : Heap} {n : Nat} {K : SV → Heap → Nat → Prop} (hP : G.P = P)
    (hm : ∀ (a : Addr) (args : Array Value) (w : World) (v : Value), w.cell? (a.add c) = some v → (callMethod (.iface t (.pointer (some a))) name args).run P w = .ok (.enter fid (#[v] ++ args)) w)
    (hk : hget h k = some (.st cs)) (hc : nth cs c = some (.p k2 0 0 0)) (hcall : CallP G fid (.l (.p k2 0 0 0) :: xs) h n K) : InvP G (.l (.i t k)) name xs h n K := by
  subst hP
  rw [CallP_eq] at hcall
  rw [InvP_eq]
  intro G' hG' ρ φ w g hr hxs
  obtain ⟨e1, e2, e3, ⟨ty, e4⟩, e5⟩ := g.hm.at_ k _ hk
  rw [nth_eq] at hc
  have hcell : w.cell? ((adr (ρ k) 0).add c) = some ((LV.p k2 0 0 0).at ρ) := by
    by_cases h0 : c = 0
    · subst h0
      simp [World.cell?, adr, Addr.add, e2, e4, hc]
    · simp [World.cell?, adr, Addr.add, h0, e2, e4, hc]
  refine ⟨fid, _, hm _ _ _ _ hcell, ?_⟩
  have := hcall.2 G' hG' ρ φ w g (fun x hx => by
    rcases List.mem_cons.1 hx with rfl | hx
    · exact e5 _ (List.mem_of_getElem? hc)
    · exact hxs x hx)
  simpa [AV.at] using this
theorem seatLen_spec (n : Nat) (st dl : Nat → Int) (a b : Bool) : FSpec Tryz.prog 209 [(0, some (seatP n st dl a b))] 1 [.l (.p 0 0 0 0)] fun x h k => x = sInt .i64 (n : Int) ∧ k = 1 ∧ h = [(0, some (seatP n st dl a b))] := by
  refine spec_of_ev_g (open_spec (seatH n st dl a b) 2 0 (by omega)) Tryz.func209 ic209_eq (rs := [.t 2]) (by kernel_rfl) (by kernel_rfl) (by kernel_rfl) fun G hP hA => ?_
  unfold evF ic209
  conv => whnf
  (refine fin_close (H := (seatH n st dl a b)) (np := 2) 0 0 (Nat.le_of_ble_eq_true rfl) ?_; conv => whnf); (refine ⟨⟨rfl, by omega, rfl, rfl, has_a, rfl⟩, ?_⟩)
  (refine fin_auto ?_; conv => whnf); exact ⟨rfl, rfl, rfl, rfl, has_a, rfl⟩
theorem invLen_flat (a : Addr) (args : Array Value) (w : World) (v : Value) (h : w.cell? (a.add 0) = some v) : (callMethod (.iface 221 (.pointer (some a))) "Len" args).run Tryz.prog w = .ok (.enter 209 (#[v] ++ args)) w := by
  have e : (callMethod (.iface 221 (.pointer (some a))) "Len" args).run Tryz.prog w = (match w.cell? (a.add 0) with
      | some v => .ok (.enter 209 (#[v] ++ args)) w
      | none => match w.farLoad Tryz.prog (a.add 0) false with
        | .ok (v, _) => .ok (.enter 209 (#[v] ++ args)) w
        | .error h => .halt h w) := by kernel_rfl
  rw [e, h]
theorem invLen_slots (a : Addr) (args : Array Value) (w : World) (v : Value) (h : w.cell? (a.add 0) = some v) : (callMethod (.iface 224 (.pointer (some a))) "Len" args).run Tryz.prog w = .ok (.enter 209 (#[v] ++ args)) w := by
  have e : (callMethod (.iface 224 (.pointer (some a))) "Len" args).run Tryz.prog w = (match w.cell? (a.add 0) with
      | some v => .ok (.enter 209 (#[v] ++ args)) w
      | none => match w.farLoad Tryz.prog (a.add 0) false with
        | .ok (v, _) => .ok (.enter 209 (#[v] ++ args)) w
        | .error h => .halt h w) := by kernel_rfl
  rw [e, h]
theorem invLen_clh (a : Addr) (args : Array Value) (w : World) (v : Value) (h : w.cell? (a.add 0) = some v) : (callMethod (.iface 227 (.pointer (some a))) "Len" args).run Tryz.prog w = .ok (.enter 209 (#[v] ++ args)) w := by
  have e : (callMethod (.iface 227 (.pointer (some a))) "Len" args).run Tryz.prog w = (match w.cell? (a.add 0) with
      | some v => .ok (.enter 209 (#[v] ++ args)) w
      | none => match w.farLoad Tryz.prog (a.add 0) false with
        | .ok (v, _) => .ok (.enter 209 (#[v] ++ args)) w
        | .error h => .halt h w) := by kernel_rfl
  rw [e, h]
theorem invLen_mcs (a : Addr) (args : Array Value) (w : World) (v : Value) (h : w.cell? (a.add 0) = some v) : (callMethod (.iface 230 (.pointer (some a))) "Len" args).run Tryz.prog w = .ok (.enter 209 (#[v] ++ args)) w := by
  have e : (callMethod (.iface 230 (.pointer (some a))) "Len" args).run Tryz.prog w = (match w.cell? (a.add 0) with
      | some v => .ok (.enter 209 (#[v] ++ args)) w
      | none => match w.farLoad Tryz.prog (a.add 0) false with
        | .ok (v, _) => .ok (.enter 209 (#[v] ++ args)) w
        | .error h => .halt h w) := by kernel_rfl
  rw [e, h]
theorem invLen_abort (a : Addr) (args : Array Value) (w : World) (v : Value) (h : w.cell? (a.add 0) = some v) : (callMethod (.iface 233 (.pointer (some a))) "Len" args).run Tryz.prog w = .ok (.enter 209 (#[v] ++ args)) w := by
  have e : (callMethod (.iface 233 (.pointer (some a))) "Len" args).run Tryz.prog w = (match w.cell? (a.add 0) with
      | some v => .ok (.enter 209 (#[v] ++ args)) w
      | none => match w.farLoad Tryz.prog (a.add 0) false with
        | .ok (v, _) => .ok (.enter 209 (#[v] ++ args)) w
        | .error h => .halt h w) := by kernel_rfl
  rw [e, h]
theorem invLen_hier (a : Addr) (args : Array Value) (w : World) (v : Value) (h : w.cell? (a.add 0) = some v) : (callMethod (.iface 236 (.pointer (some a))) "Len" args).run Tryz.prog w = .ok (.enter 209 (#[v] ++ args)) w := by
  have e : (callMethod (.iface 236 (.pointer (some a))) "Len" args).run Tryz.prog w = (match w.cell? (a.add 0) with
      | some v => .ok (.enter 209 (#[v] ++ args)) w
      | none => match w.farLoad Tryz.prog (a.add 0) false with
        | .ok (v, _) => .ok (.enter 209 (#[v] ++ args)) w
        | .error h => .halt h w) := by kernel_rfl
  rw [e, h]
theorem invLen_cohort (a : Addr) (args : Array Value) (w : World) (v : Value) (h : w.cell? (a.add 0) = some v) : (callMethod (.iface 239 (.pointer (some a))) "Len" args).run Tryz.prog w = .ok (.enter 209 (#[v] ++ args)) w := by
  have e : (callMethod (.iface 239 (.pointer (some a))) "Len" args).run Tryz.prog w = (match w.cell? (a.add 0) with
      | some v => .ok (.enter 209 (#[v] ++ args)) w
      | none => match w.farLoad Tryz.prog (a.add 0) false with
        | .ok (v, _) => .ok (.enter 209 (#[v] ++ args)) w
        | .error h => .halt h w) := by kernel_rfl
  rw [e, h]
end Go.Proofs.YtlkfolopbehikaaGreat
set_option linter.unusedSimpArgs false
set_option linter.unusedVariables false
namespace Go.Proofs.YtlkfolopbehikaaGreat
open Go Go.Sx

theorem extLoad : ExtA Tryz.prog 98 (Extern.Atomic.loadT (.int .u32)) := ⟨_, Tryz.func98, by kernel_rfl, by kernel_rfl, by kernel_rfl, by kernel_rfl⟩
theorem extAdd : ExtA Tryz.prog 230 (Extern.Atomic.update (Op.intArith .add) .u32 true) := ⟨_, Tryz.func230, by kernel_rfl, by kernel_rfl, by kernel_rfl, by kernel_rfl⟩
theorem aload_spec (n i : Nat) (ws : Nat → Int) (hi : i < n) :
    FSpec Tryz.prog 57 [(0, some (.ar 1 n (wordE ws)))] 1 [.l (.p 0 1 i 0)] fun x h k => x = sInt .u32 (ws i) ∧ k = 1 ∧ h = [(0, some (.ar 1 n (wordE ws)))] := by
  refine spec_of_ev Tryz.func57 ic57_eq (rs := [.t 2]) (by kernel_rfl) (by kernel_rfl) (by kernel_rfl) fun G hP hA => ?_
  unfold evF ic57
  conv => whnf
  refine esc_aload (q := .u32) (x := ws i) (hP ▸ extLoad) rfl rfl hi (by omega) rfl ?_
  conv => whnf
  (refine fin_auto ?_; conv => whnf); exact ⟨rfl, rfl, rfl, rfl, has_a, rfl⟩
def addW (x d : Int) : Int := IntKind.u32.wrap (x + d)
theorem aadd_spec (n i : Nat) (ws : Nat → Int) (d : Int) (hi : i < n) :
    FSpec Tryz.prog 228 [(0, some (.ar 1 n (wordE ws)))] 1 [.l (.p 0 1 i 0), .l (.v (.int .u32 d))] fun x h k => x = sInt .u32 (addW (ws i) d) ∧ k = 1 ∧ h = [(0, some (.ar 1 n (wordE (updF ws i (addW (ws i) d)))))] := by
  refine spec_of_ev Tryz.func228 ic228_eq (rs := [.t 4]) (by kernel_rfl) (by kernel_rfl) (by kernel_rfl) fun G hP hA => ?_
  unfold evF ic228
  conv => whnf
  refine esc_aadd (q := .u32) (x := ws i) (hP ▸ extAdd) rfl rfl rfl hi (by omega) rfl ?_
  conv => whnf
  refine ⟨hi, ?_⟩
  conv => whnf
  (refine fin_auto ?_; conv => whnf); refine ⟨rfl, rfl, rfl, ?_, ?_, rfl⟩
  · rfl
  · refine ⟨⟨rfl, rfl, fun j hj => updE ws i (addW (ws i) d) j⟩, trivial⟩
theorem memLoad_in (n i : Nat) (ws hs : Nat → Int) (hi : i < n) (hn : n ≤ 1000000) :
    FSpec Tryz.prog 224 [(0, some (memP n ws hs))] 1 [.l (.p 0 0 0 0), .l (.v (.int .i64 i))] fun x h k => x = sInt .u32 (ws i) ∧ k = 1 ∧ h = [(0, some (memP n ws hs))] := by
  have ha := memAt_in n i ws hs hi hn
  have hs' := aload_spec n i ws hi
  refine spec_of_ev_g (open_spec (memH n ws hs) 3 0 (by omega)) Tryz.func224 ic224_eq (rs := [.t 4]) (by kernel_rfl) (by kernel_rfl) (by kernel_rfl) fun G hP hA => ?_
  unfold evF ic224
  conv => whnf
  (refine call_auto hP (ha) ?_; conv => whnf); (refine ⟨⟨rfl, rfl, rfl, has_a, rfl, rfl⟩, ?_⟩; conv => whnf)
  (refine call_auto hP (hs') ?_; conv => whnf); (refine ⟨⟨rfl, rfl, rfl, has_a, rfl, rfl⟩, ?_⟩; conv => whnf)
  (refine fin_close (H := (memH n ws hs)) (np := 3) 0 0 (Nat.le_of_ble_eq_true rfl) ?_; conv => whnf); (refine ⟨⟨rfl, by omega, rfl, rfl, has_a, rfl⟩, ?_⟩)
  (refine fin_auto ?_; conv => whnf); exact ⟨rfl, rfl, rfl, rfl, has_a, rfl⟩
theorem memAdd_in (n i : Nat) (ws hs : Nat → Int) (d : Int) (hi : i < n) (hn : n ≤ 1000000) :
    FSpec Tryz.prog 226 [(0, some (memP n ws hs))] 1 [.l (.p 0 0 0 0), .l (.v (.int .i64 i)), .l (.v (.int .u32 d))] fun x h k => x = sInt .u32 (addW (addW (ws i) d) (-d)) ∧ k = 1 ∧ h = [(0, some (memP n (updF ws i (addW (ws i) d)) hs))] := by
  have ha := memAt_in n i ws hs hi hn
  have hs' := aadd_spec n i ws d hi
  refine spec_of_ev_g (open_spec (memH n ws hs) 3 0 (by omega)) Tryz.func226 ic226_eq (rs := [.t 6]) (by kernel_rfl) (by kernel_rfl) (by kernel_rfl) fun G hP hA => ?_
  unfold evF ic226
  conv => whnf
  (refine call_auto hP (ha) ?_; conv => whnf); (refine ⟨⟨rfl, rfl, rfl, has_a, rfl, rfl⟩, ?_⟩; conv => whnf)
  (refine call_auto hP (hs') ?_; conv => whnf); (refine ⟨⟨rfl, rfl, rfl, has_a, rfl, rfl⟩, ?_⟩; conv => whnf)
  refine arW ?_
  conv => whnf
  (refine fin_close (H := (memH n (updF ws i (addW (ws i) d)) hs)) (np := 3) 0 0 (Nat.le_of_ble_eq_true rfl) ?_; conv => whnf); (refine ⟨⟨rfl, by omega, rfl, rfl, has_a, rfl⟩, ?_⟩)
  (refine fin_auto ?_; conv => whnf); exact ⟨rfl, rfl, rfl, rfl, has_a, rfl⟩
end Go.Proofs.YtlkfolopbehikaaGreat
set_option linter.unusedSimpArgs false
set_option linter.unusedVariables false
namespace Go.Proofs.YtlkfolopbehikaaGreat
open Go Go.Sx

def ownB (t : Nat) : Int := IntKind.u64.wrap (1 * 2 ^ (min ((t : Int)).toNat IntKind.u64.bits))
def orB (a b : Int) : Int := bitZ .or .u64 a b
def incZ (x : Int) : Int := IntKind.i64.wrap (x + 1)
def missR (cp : Nat → Int) (t a : Nat) : Bool := decide (bitZ .and .u64 (cp a) (ownB t) = 0)
def missW (cp : Nat → Int) (t a : Nat) : Bool := decide (cp a ≠ ownB t)
def msT (b : Bool) (ms : Nat → Int) (t : Nat) : Nat → Int := match b with | true => updF ms t (incZ (ms t)) | false => ms
theorem updC (f : Nat → Int) (i : Nat) (v : Int) (j : Nat) : mrgL (j = i) (setMany (copyE f j) 0 [.int .u64 v]) (copyE f j) = copyE (updF f i v) j := by
  simp only [copyE, updF, setMany, setL, mrgL, mrg_eq]
  by_cases h : j = i <;> simp [h]
theorem updM (f : Nat → Int) (i : Nat) (v : Int) (j : Nat) : mrgL (j = i) (setMany (numE f j) 0 [.int .i64 v]) (numE f j) = numE (updF f i v) j := by
  simp only [numE, updF, setMany, setL, mrgL, mrg_eq]
  by_cases h : j = i <;> simp [h]
theorem shlOwn {t : Nat} {K : Int → Prop} (h : K (ownB t)) : ShlP .u64 1 (t : Int) K := by rw [ShlP_eq]; exact ⟨by omega, h⟩
theorem cacheThere_in (nw nt : Nat) (cp ms : Nat → Int) (t a : Nat) (ht : t < nt) (ha : a < nw) (hnt : nt ≤ 64) (hnw : nw ≤ 4096) :
    FSpec Tryz.prog 229 (cacheH nw nt cp ms) 3 [.l (.p 0 0 0 0), .l (.v (.int .i64 t)), .l (.v (.int .i64 a))] fun x h k => x = sBool true ∧ k = 3 ∧ h = cacheH nw nt cp ms := by
  refine spec_of_ev Tryz.func229 ic229_eq (rs := [.t 6]) (by kernel_rfl) (by kernel_rfl) (by kernel_rfl) fun G hP hA => ?_
  unfold evF ic229
  conv => whnf
  (repeat' (first | (refine join_plain ?_; conv => whnf) | (refine dsplit (fun _ => ?_) (fun _ => ?_) <;> conv => whnf)))
  all_goals first | (exfalso; omega) | skip
  (refine fin_auto ?_; conv => whnf); refine ⟨rfl, rfl, rfl, bool_fin ?_, has_a, rfl⟩
  simp; omega
theorem updF2 (f : Nat → Int) (i : Nat) (u v : Int) : updF (updF f i u) i v = updF f i v := by
  funext j
  simp only [updF]
  by_cases h : j = i <;> simp [h]
theorem touchR_spec (nw nt : Nat) (cp ms : Nat → Int) (t a : Nat) (ht : t < nt) (ha : a < nw) (hnt : nt ≤ 64) (hnw : nw ≤ 4096) :
    FSpec Tryz.prog 227 [(0, some (cacheP nw nt cp ms))] 1 [.l (.p 0 0 0 0), .l (.v (.int .i64 t)), .l (.v (.int .i64 a)), .l (.v (.bool false))] fun x h k =>
      x = sBool (missR cp t a) ∧ k = 1 ∧ h = [(0, some (cacheP nw nt (updF cp a (orB (cp a) (ownB t))) (msT (missR cp t a) ms t)))] := by
  have hth := cacheThere_in nw nt cp ms t a ht ha hnt hnw
  have hna : nadd 0 ((a : Int)).toNat = a := by simp [nadd_eq]
  have hnt : nadd 0 ((t : Int)).toNat = t := by simp [nadd_eq]
  refine spec_of_ev_g (open_spec (cacheH nw nt cp ms) 3 0 (by omega)) Tryz.func227 ic227_eq (rs := [.t 8]) (by kernel_rfl) (by kernel_rfl) (by kernel_rfl) fun G hP hA => ?_
  unfold evF ic227
  conv => whnf
  (refine call_auto hP (hth) ?_; conv => whnf); (refine ⟨⟨rfl, rfl, rfl, has_a, rfl, rfl⟩, ?_⟩; conv => whnf)
  refine shlOwn ?_
  conv => whnf
  (repeat' (first | (refine And.intro (by (first | omega | assumption | (simp only [nadd_eq]; omega) | (simp [nadd_eq]; omega))) ?_; conv => whnf) | (refine arI64 (by omega) (by omega) ?_; conv => whnf) | (refine arU32 (by omega) (by omega) ?_; conv => whnf) | (refine arU8 (by omega) (by omega) ?_; conv => whnf)))
  (refine join_plain ?_; conv => whnf)
  conv => whnf
  (repeat' (first | (refine And.intro (by (first | omega | assumption | (simp only [nadd_eq]; omega) | (simp [nadd_eq]; omega))) ?_; conv => whnf) | (refine arI64 (by omega) (by omega) ?_; conv => whnf) | (refine arU32 (by omega) (by omega) ?_; conv => whnf) | (refine arU8 (by omega) (by omega) ?_; conv => whnf)))
  (refine join_plain ?_; conv => whnf)
  conv => whnf
  refine dsplit (fun hq => ?_) (fun hq => ?_)
  · conv => whnf
    (repeat' (first | (refine And.intro (by (first | omega | assumption | (simp only [nadd_eq]; omega) | (simp [nadd_eq]; omega))) ?_; conv => whnf) | (refine arI64 (by omega) (by omega) ?_; conv => whnf) | (refine arU32 (by omega) (by omega) ?_; conv => whnf) | (refine arU8 (by omega) (by omega) ?_; conv => whnf)))
    refine arW ?_
    conv => whnf
    (repeat' (first | (refine And.intro (by (first | omega | assumption | (simp only [nadd_eq]; omega) | (simp [nadd_eq]; omega))) ?_; conv => whnf) | (refine arI64 (by omega) (by omega) ?_; conv => whnf) | (refine arU32 (by omega) (by omega) ?_; conv => whnf) | (refine arU8 (by omega) (by omega) ?_; conv => whnf)))
    rw [hna, hnt]
    have e : missR cp t a = true := decide_eq_true hq
    (refine fin_close (H := (cacheH nw nt (updF cp a (orB (cp a) (ownB t))) (msT (missR cp t a) ms t))) (np := 3) 0 0 (Nat.le_of_ble_eq_true rfl) ?_; conv => whnf); (refine ⟨⟨rfl, by omega, rfl, rfl, ?_, rfl⟩, ?_⟩)
    · exact ⟨rfl, ⟨rfl, rfl, fun j hj => updC cp a _ j⟩, ⟨rfl, rfl, fun j hj => by rw [e]; exact updM ms t _ j⟩, trivial⟩
    conv => whnf
    (refine fin_auto ?_; conv => whnf); exact ⟨rfl, rfl, rfl, rfl, has_a, rfl⟩
  · conv => whnf
    rw [hna]
    have e : missR cp t a = false := decide_eq_false hq
    (refine fin_close (H := (cacheH nw nt (updF cp a (orB (cp a) (ownB t))) (msT (missR cp t a) ms t))) (np := 3) 0 0 (Nat.le_of_ble_eq_true rfl) ?_; conv => whnf); (refine ⟨⟨rfl, by omega, rfl, rfl, ?_, rfl⟩, ?_⟩)
    · exact ⟨rfl, ⟨rfl, rfl, fun j hj => updC cp a _ j⟩, ⟨rfl, rfl, fun j hj => by rw [e]; rfl⟩, trivial⟩
    conv => whnf
    (refine fin_auto ?_; conv => whnf); exact ⟨rfl, rfl, rfl, rfl, has_a, rfl⟩
theorem touchW_spec (nw nt : Nat) (cp ms : Nat → Int) (t a : Nat) (ht : t < nt) (ha : a < nw) (hnt : nt ≤ 64) (hnw : nw ≤ 4096) :
    FSpec Tryz.prog 227 [(0, some (cacheP nw nt cp ms))] 1 [.l (.p 0 0 0 0), .l (.v (.int .i64 t)), .l (.v (.int .i64 a)), .l (.v (.bool true))] fun x h k =>
      x = sBool (missW cp t a) ∧ k = 1 ∧ h = [(0, some (cacheP nw nt (updF cp a (ownB t)) (msT (missW cp t a) ms t)))] := by
  have hth := cacheThere_in nw nt cp ms t a ht ha hnt hnw
  have hna : nadd 0 ((a : Int)).toNat = a := by simp [nadd_eq]
  have hnt : nadd 0 ((t : Int)).toNat = t := by simp [nadd_eq]
  refine spec_of_ev_g (open_spec (cacheH nw nt cp ms) 3 0 (by omega)) Tryz.func227 ic227_eq (rs := [.t 8]) (by kernel_rfl) (by kernel_rfl) (by kernel_rfl) fun G hP hA => ?_
  unfold evF ic227
  conv => whnf
  (refine call_auto hP (hth) ?_; conv => whnf); (refine ⟨⟨rfl, rfl, rfl, has_a, rfl, rfl⟩, ?_⟩; conv => whnf)
  refine shlOwn ?_
  conv => whnf
  (repeat' (first | (refine And.intro (by (first | omega | assumption | (simp only [nadd_eq]; omega) | (simp [nadd_eq]; omega))) ?_; conv => whnf) | (refine arI64 (by omega) (by omega) ?_; conv => whnf) | (refine arU32 (by omega) (by omega) ?_; conv => whnf) | (refine arU8 (by omega) (by omega) ?_; conv => whnf)))
  (refine join_plain ?_; conv => whnf)
  conv => whnf
  (repeat' (first | (refine And.intro (by (first | omega | assumption | (simp only [nadd_eq]; omega) | (simp [nadd_eq]; omega))) ?_; conv => whnf) | (refine arI64 (by omega) (by omega) ?_; conv => whnf) | (refine arU32 (by omega) (by omega) ?_; conv => whnf) | (refine arU8 (by omega) (by omega) ?_; conv => whnf)))
  (refine join_plain ?_; conv => whnf)
  conv => whnf
  refine dsplit (fun hq => ?_) (fun hq => ?_)
  · conv => whnf
    (repeat' (first | (refine And.intro (by (first | omega | assumption | (simp only [nadd_eq]; omega) | (simp [nadd_eq]; omega))) ?_; conv => whnf) | (refine arI64 (by omega) (by omega) ?_; conv => whnf) | (refine arU32 (by omega) (by omega) ?_; conv => whnf) | (refine arU8 (by omega) (by omega) ?_; conv => whnf)))
    refine arW ?_
    conv => whnf
    (repeat' (first | (refine And.intro (by (first | omega | assumption | (simp only [nadd_eq]; omega) | (simp [nadd_eq]; omega))) ?_; conv => whnf) | (refine arI64 (by omega) (by omega) ?_; conv => whnf) | (refine arU32 (by omega) (by omega) ?_; conv => whnf) | (refine arU8 (by omega) (by omega) ?_; conv => whnf)))
    rw [hna, hnt]
    have e : missW cp t a = true := decide_eq_true hq
    (refine fin_close (H := (cacheH nw nt (updF cp a (ownB t)) (msT (missW cp t a) ms t))) (np := 3) 0 0 (Nat.le_of_ble_eq_true rfl) ?_; conv => whnf); (refine ⟨⟨rfl, by omega, rfl, rfl, ?_, rfl⟩, ?_⟩)
    · exact ⟨rfl, ⟨rfl, rfl, fun j hj => by simp only [updC, updF2]⟩, ⟨rfl, rfl, fun j hj => by rw [e]; exact updM ms t _ j⟩, trivial⟩
    conv => whnf
    (refine fin_auto ?_; conv => whnf); exact ⟨rfl, rfl, rfl, rfl, has_a, rfl⟩
  · conv => whnf
    rw [hna]
    have e : missW cp t a = false := decide_eq_false hq
    (refine fin_close (H := (cacheH nw nt (updF cp a (ownB t)) (msT (missW cp t a) ms t))) (np := 3) 0 0 (Nat.le_of_ble_eq_true rfl) ?_; conv => whnf); (refine ⟨⟨rfl, by omega, rfl, rfl, ?_, rfl⟩, ?_⟩)
    · exact ⟨rfl, ⟨rfl, rfl, fun j hj => by simp only [updC, updF2]⟩, ⟨rfl, rfl, fun j hj => by rw [e]; rfl⟩, trivial⟩
    conv => whnf
    (refine fin_auto ?_; conv => whnf); exact ⟨rfl, rfl, rfl, rfl, has_a, rfl⟩
end Go.Proofs.YtlkfolopbehikaaGreat
set_option linter.unusedSimpArgs false
set_option linter.unusedVariables false
namespace Go.Proofs.YtlkfolopbehikaaGreat
open Go Go.Sx

theorem updP0 (f g : Nat → Int) (i : Nat) (v : Int) (j : Nat) : mrgL (j = i) (setMany (pairE f g j) 0 [.int .i64 v]) (pairE f g j) = pairE (updF f i v) g j := by
  simp only [pairE, updF, setMany, setL, mrgL, mrg_eq]
  by_cases h : j = i <;> simp [h]
theorem updP1 (f g : Nat → Int) (i : Nat) (v : Int) (j : Nat) : mrgL (j = i) (setMany (pairE f g j) 1 [.int .i64 v]) (pairE f g j) = pairE f (updF g i v) j := by
  simp only [pairE, updF, setMany, setL, mrgL, mrg_eq]
  by_cases h : j = i <;> simp [h]
theorem updP01 (f g : Nat → Int) (i : Nat) (u : Int) (j : Nat) :
    mrgL (j = i) (setMany (mrgL (j = i) (setMany (pairE f g j) 0 [.int .i64 u]) (pairE f g j)) 1 [.int .i64 (IntKind.i64.wrap ((if i = i then g i else g i) + 1))]) (mrgL (j = i) (setMany (pairE f g j) 0 [.int .i64 u]) (pairE f g j)) = pairE (updF f i u) (updF g i (incZ (g i))) j := by
  rw [ite_self, updP0, updP1]
  rfl
theorem portTouchR (nt nw : Nat) (ws hs cp ms ac wr : Nat → Int) (t a : Nat) (ht : t < nt) (ha : a < nw) (hnt : nt ≤ 64) (hnw : nw ≤ 4096) :
    FSpec Tryz.prog 223 (portH nt nw ws hs cp ms ac wr) 4 [.l (.p 0 0 0 0), .l (.v (.int .i64 t)), .l (.v (.int .i64 a)), .l (.v (.bool false))] fun x h k =>
      x = sBool true ∧ k = 4 ∧ h = portH nt nw ws hs (updF cp a (orB (cp a) (ownB t))) (msT (missR cp t a) ms t) (updF ac t (incZ (ac t))) wr := by
  have hml := memLen_spec nw ws hs
  have hct := touchR_spec nw nt cp ms t a ht ha hnt hnw
  have hna : nadd 0 ((a : Int)).toNat = a := by simp [nadd_eq]
  have hnt' : nadd 0 ((t : Int)).toNat = t := by simp [nadd_eq]
  refine spec_of_ev Tryz.func223 ic223_eq (rs := [.t 8]) (by kernel_rfl) (by kernel_rfl) (by kernel_rfl) fun G hP hA => ?_
  unfold evF ic223
  conv => whnf
  (repeat' (first | (refine join_plain ?_; conv => whnf) | (refine dsplit (fun _ => ?_) (fun _ => ?_) <;> conv => whnf)))
  all_goals first | (exfalso; omega) | skip
  (refine call_auto hP (hml) ?_; conv => whnf); (refine ⟨⟨rfl, rfl, rfl, has_a, rfl, rfl⟩, ?_⟩; conv => whnf)
  (repeat' (first | (refine join_plain ?_; conv => whnf) | (refine dsplit (fun _ => ?_) (fun _ => ?_) <;> conv => whnf)))
  all_goals first | (exfalso; omega) | skip
  (refine drawP_intro (by rw [hP]; exact follows) (by kernel_rfl) ?_; conv => whnf)
  (repeat' (first | (refine And.intro (by (first | omega | assumption | (simp only [nadd_eq]; omega) | (simp [nadd_eq]; omega))) ?_; conv => whnf) | (refine arI64 (by omega) (by omega) ?_; conv => whnf) | (refine arU32 (by omega) (by omega) ?_; conv => whnf) | (refine arU8 (by omega) (by omega) ?_; conv => whnf)))
  refine arW ?_
  conv => whnf
  (repeat' (first | (refine And.intro (by (first | omega | assumption | (simp only [nadd_eq]; omega) | (simp [nadd_eq]; omega))) ?_; conv => whnf) | (refine arI64 (by omega) (by omega) ?_; conv => whnf) | (refine arU32 (by omega) (by omega) ?_; conv => whnf) | (refine arU8 (by omega) (by omega) ?_; conv => whnf)))
  (repeat (refine And.intro (by (conv => whnf); first | exact ⟨rfl, rfl, rfl⟩ | (refine And.intro (by (first | omega | assumption | (simp only [nadd_eq]; omega) | (simp [nadd_eq]; omega))) ?_; (conv => whnf); exact ⟨rfl, rfl, rfl⟩)) ?_; conv => whnf))
  (refine join_plain ?_; conv => whnf)
  conv => whnf
  (refine call_auto hP (hct) ?_; conv => whnf); (refine ⟨⟨rfl, rfl, rfl, has_a, rfl, rfl⟩, ?_⟩; conv => whnf)
  rw [hnt']
  (refine fin_auto ?_; conv => whnf); refine ⟨rfl, rfl, rfl, ?_, ?_, rfl⟩
  · rfl
  · exact ⟨rfl, has_a, has_a, ⟨rfl, rfl, fun j hj => updP0 ac wr t _ j⟩, trivial⟩
theorem portTouchW (nt nw : Nat) (ws hs cp ms ac wr : Nat → Int) (t a : Nat) (ht : t < nt) (ha : a < nw) (hnt : nt ≤ 64) (hnw : nw ≤ 4096) :
    FSpec Tryz.prog 223 (portH nt nw ws hs cp ms ac wr) 4 [.l (.p 0 0 0 0), .l (.v (.int .i64 t)), .l (.v (.int .i64 a)), .l (.v (.bool true))] fun x h k =>
      x = sBool true ∧ k = 4 ∧ h = portH nt nw ws hs (updF cp a (ownB t)) (msT (missW cp t a) ms t) (updF ac t (incZ (ac t))) (updF wr t (incZ (wr t))) := by
  have hml := memLen_spec nw ws hs
  have hct := touchW_spec nw nt cp ms t a ht ha hnt hnw
  have hna : nadd 0 ((a : Int)).toNat = a := by simp [nadd_eq]
  have hnt' : nadd 0 ((t : Int)).toNat = t := by simp [nadd_eq]
  refine spec_of_ev Tryz.func223 ic223_eq (rs := [.t 8]) (by kernel_rfl) (by kernel_rfl) (by kernel_rfl) fun G hP hA => ?_
  unfold evF ic223
  conv => whnf
  (repeat' (first | (refine join_plain ?_; conv => whnf) | (refine dsplit (fun _ => ?_) (fun _ => ?_) <;> conv => whnf)))
  all_goals first | (exfalso; omega) | skip
  (refine call_auto hP (hml) ?_; conv => whnf); (refine ⟨⟨rfl, rfl, rfl, has_a, rfl, rfl⟩, ?_⟩; conv => whnf)
  (repeat' (first | (refine join_plain ?_; conv => whnf) | (refine dsplit (fun _ => ?_) (fun _ => ?_) <;> conv => whnf)))
  all_goals first | (exfalso; omega) | skip
  (refine drawP_intro (by rw [hP]; exact follows) (by kernel_rfl) ?_; conv => whnf)
  (repeat' (first | (refine And.intro (by (first | omega | assumption | (simp only [nadd_eq]; omega) | (simp [nadd_eq]; omega))) ?_; conv => whnf) | (refine arI64 (by omega) (by omega) ?_; conv => whnf) | (refine arU32 (by omega) (by omega) ?_; conv => whnf) | (refine arU8 (by omega) (by omega) ?_; conv => whnf)))
  refine arW ?_
  conv => whnf
  (repeat' (first | (refine And.intro (by (first | omega | assumption | (simp only [nadd_eq]; omega) | (simp [nadd_eq]; omega))) ?_; conv => whnf) | (refine arI64 (by omega) (by omega) ?_; conv => whnf) | (refine arU32 (by omega) (by omega) ?_; conv => whnf) | (refine arU8 (by omega) (by omega) ?_; conv => whnf)))
  (repeat (refine And.intro (by (conv => whnf); first | exact ⟨rfl, rfl, rfl⟩ | (refine And.intro (by (first | omega | assumption | (simp only [nadd_eq]; omega) | (simp [nadd_eq]; omega))) ?_; (conv => whnf); exact ⟨rfl, rfl, rfl⟩)) ?_; conv => whnf))
  (refine join_plain ?_; conv => whnf)
  conv => whnf
  (refine drawP_intro (by rw [hP]; exact follows) (by kernel_rfl) ?_; conv => whnf)
  (repeat' (first | (refine And.intro (by (first | omega | assumption | (simp only [nadd_eq]; omega) | (simp [nadd_eq]; omega))) ?_; conv => whnf) | (refine arI64 (by omega) (by omega) ?_; conv => whnf) | (refine arU32 (by omega) (by omega) ?_; conv => whnf) | (refine arU8 (by omega) (by omega) ?_; conv => whnf)))
  refine arW ?_
  conv => whnf
  (repeat' (first | (refine And.intro (by (first | omega | assumption | (simp only [nadd_eq]; omega) | (simp [nadd_eq]; omega))) ?_; conv => whnf) | (refine arI64 (by omega) (by omega) ?_; conv => whnf) | (refine arU32 (by omega) (by omega) ?_; conv => whnf) | (refine arU8 (by omega) (by omega) ?_; conv => whnf)))
  (repeat (refine And.intro (by (conv => whnf); first | exact ⟨rfl, rfl, rfl⟩ | (refine And.intro (by (first | omega | assumption | (simp only [nadd_eq]; omega) | (simp [nadd_eq]; omega))) ?_; (conv => whnf); exact ⟨rfl, rfl, rfl⟩)) ?_; conv => whnf))
  conv => whnf
  (refine call_auto hP (hct) ?_; conv => whnf); (refine ⟨⟨rfl, rfl, rfl, has_a, rfl, rfl⟩, ?_⟩; conv => whnf)
  rw [hnt']
  (refine fin_auto ?_; conv => whnf); refine ⟨rfl, rfl, rfl, ?_, ?_, rfl⟩
  · rfl
  · exact ⟨rfl, has_a, has_a, ⟨rfl, rfl, fun j hj => updP01 ac wr t _ j⟩, trivial⟩
end Go.Proofs.YtlkfolopbehikaaGreat
set_option linter.unusedSimpArgs false
set_option linter.unusedVariables false
namespace Go.Proofs.YtlkfolopbehikaaGreat
open Go Go.Sx

/-- A port, behind a thread's reading, or writing, of a word. -/
def portR (nt nw : Nat) (ws hs cp ms ac wr : Nat → Int) (t a : Nat) : Ent := portP nt nw ws hs (updF cp a (orB (cp a) (ownB t))) (msT (missR cp t a) ms t) (updF ac t (incZ (ac t))) wr
def portW (nt nw : Nat) (ws hs cp ms ac wr : Nat → Int) (t a : Nat) : Ent := portP nt nw ws hs (updF cp a (ownB t)) (msT (missW cp t a) ms t) (updF ac t (incZ (ac t))) (updF wr t (incZ (wr t)))
theorem portLoad_spec (nt nw : Nat) (ws hs cp ms ac wr : Nat → Int) (t a : Nat)  (ht : t < nt) (ha : a < nw) (hnt : nt ≤ 64) (hnw : nw ≤ 4096) :
    FSpec Tryz.prog 220 [(0, some (portP nt nw ws hs cp ms ac wr))] 1 [.l (.p 0 0 0 0), .l (.v (.int .i64 t)), .l (.v (.int .i64 a))] fun x h k =>
      x = sInt .u32 (ws a) ∧ k = 1 ∧ h = [(0, some (portR nt nw ws hs cp ms ac wr t a))] := by
  have htc := portTouchR nt nw ws hs cp ms ac wr t a ht ha hnt hnw
  have hmm := memLoad_in nw a ws hs ha (by omega)
  refine spec_of_ev_g (open_spec (portH nt nw ws hs cp ms ac wr) 4 0 (by omega)) Tryz.func220 ic220_eq (rs := [.t 6]) (by kernel_rfl) (by kernel_rfl) (by kernel_rfl) fun G hP hA => ?_
  unfold evF ic220
  conv => whnf
  (refine call_auto hP (htc) ?_; conv => whnf); (refine ⟨⟨rfl, rfl, rfl, has_a, rfl, rfl⟩, ?_⟩; conv => whnf)
  (refine call_auto hP (hmm) ?_; conv => whnf); (refine ⟨⟨rfl, rfl, rfl, has_a, rfl, rfl⟩, ?_⟩; conv => whnf)
  (refine fin_close (H := (portH nt nw ws hs (updF cp a (orB (cp a) (ownB t))) (msT (missR cp t a) ms t) (updF ac t (incZ (ac t))) wr)) (np := 4) 0 0 (Nat.le_of_ble_eq_true rfl) ?_; conv => whnf); (refine ⟨⟨rfl, by omega, rfl, rfl, has_a, rfl⟩, ?_⟩)
  (refine fin_auto ?_; conv => whnf); exact ⟨rfl, rfl, rfl, rfl, has_a, rfl⟩
theorem portAdd_spec (nt nw : Nat) (ws hs cp ms ac wr : Nat → Int) (t a : Nat) (d : Int) (ht : t < nt) (ha : a < nw) (hnt : nt ≤ 64) (hnw : nw ≤ 4096) :
    FSpec Tryz.prog 222 [(0, some (portP nt nw ws hs cp ms ac wr))] 1 [.l (.p 0 0 0 0), .l (.v (.int .i64 t)), .l (.v (.int .i64 a)), .l (.v (.int .u32 d))] fun x h k =>
      x = sInt .u32 (addW (addW (ws a) d) (-d)) ∧ k = 1 ∧ h = [(0, some (portW nt nw (updF ws a (addW (ws a) d)) hs cp ms ac wr t a))] := by
  have htc := portTouchW nt nw ws hs cp ms ac wr t a ht ha hnt hnw
  have hmm := memAdd_in nw a ws hs d ha (by omega)
  refine spec_of_ev_g (open_spec (portH nt nw ws hs cp ms ac wr) 4 0 (by omega)) Tryz.func222 ic222_eq (rs := [.t 8]) (by kernel_rfl) (by kernel_rfl) (by kernel_rfl) fun G hP hA => ?_
  unfold evF ic222
  conv => whnf
  (refine call_auto hP (htc) ?_; conv => whnf); (refine ⟨⟨rfl, rfl, rfl, has_a, rfl, rfl⟩, ?_⟩; conv => whnf)
  (refine call_auto hP (hmm) ?_; conv => whnf); (refine ⟨⟨rfl, rfl, rfl, has_a, rfl, rfl⟩, ?_⟩; conv => whnf)
  (refine fin_close (H := (portH nt nw (updF ws a (addW (ws a) d)) hs (updF cp a (ownB t)) (msT (missW cp t a) ms t) (updF ac t (incZ (ac t))) (updF wr t (incZ (wr t))))) (np := 4) 0 0 (Nat.le_of_ble_eq_true rfl) ?_; conv => whnf); (refine ⟨⟨rfl, by omega, rfl, rfl, has_a, rfl⟩, ?_⟩)
  (refine fin_auto ?_; conv => whnf); exact ⟨rfl, rfl, rfl, rfl, has_a, rfl⟩
end Go.Proofs.YtlkfolopbehikaaGreat
set_option linter.unusedSimpArgs false
set_option linter.unusedVariables false
namespace Go.Proofs.YtlkfolopbehikaaGreat
open Go Go.Sx

theorem seatThere_in (n : Nat) (st dl : Nat → Int) (a b : Bool) (t : Nat) (ht : t < n) (hn : n ≤ 64) : FSpec Tryz.prog 216 (seatH n st dl a b) 2 [.l (.p 0 0 0 0), .l (.v (.int .i64 t))] fun x h k => x = sBool true ∧ k = 2 ∧ h = seatH n st dl a b := by
  refine spec_of_ev Tryz.func216 ic216_eq (rs := [.t 4]) (by kernel_rfl) (by kernel_rfl) (by kernel_rfl) fun G hP hA => ?_
  unfold evF ic216
  conv => whnf
  (repeat' (first | (refine join_plain ?_; conv => whnf) | (refine dsplit (fun _ => ?_) (fun _ => ?_) <;> conv => whnf)))
  all_goals first | (exfalso; omega) | skip
  (refine fin_auto ?_; conv => whnf); refine ⟨rfl, rfl, rfl, bool_fin ?_, has_a, rfl⟩
  simp; omega
theorem seatState_in (n : Nat) (st dl : Nat → Int) (a b : Bool) (t : Nat) (ht : t < n) (hn : n ≤ 64) : FSpec Tryz.prog 212 (seatH n st dl a b) 2 [.l (.p 0 0 0 0), .l (.v (.int .i64 t))] fun x h k => x = sInt .i64 (st t) ∧ k = 2 ∧ h = seatH n st dl a b := by
  have hth := seatThere_in n st dl a b t ht hn
  have hnt' : nadd 0 ((t : Int)).toNat = t := by simp [nadd_eq]
  refine spec_of_ev Tryz.func212 ic212_eq (rs := [.t 4]) (by kernel_rfl) (by kernel_rfl) (by kernel_rfl) fun G hP hA => ?_
  unfold evF ic212
  conv => whnf
  (refine call_auto hP (hth) ?_; conv => whnf); (refine ⟨⟨rfl, rfl, rfl, has_a, rfl, rfl⟩, ?_⟩; conv => whnf)
  (repeat' (first | (refine And.intro (by (first | omega | assumption | (simp only [nadd_eq]; omega) | (simp [nadd_eq]; omega))) ?_; conv => whnf) | (refine arI64 (by omega) (by omega) ?_; conv => whnf) | (refine arU32 (by omega) (by omega) ?_; conv => whnf) | (refine arU8 (by omega) (by omega) ?_; conv => whnf)))
  rw [hnt']
  (refine fin_auto ?_; conv => whnf); exact ⟨rfl, rfl, rfl, rfl, has_a, rfl⟩
theorem seatState_spec (n : Nat) (st dl : Nat → Int) (a b : Bool) (t : Nat) (ht : t < n) (hn : n ≤ 64) : FSpec Tryz.prog 212 [(0, some (seatP n st dl a b))] 1 [.l (.p 0 0 0 0), .l (.v (.int .i64 t))] fun x h k => x = sInt .i64 (st t) ∧ k = 1 ∧ h = [(0, some (seatP n st dl a b))] := by
  have hth := seatThere_in n st dl a b t ht hn
  have hnt' : nadd 0 ((t : Int)).toNat = t := by simp [nadd_eq]
  refine spec_of_ev_g (open_spec (seatH n st dl a b) 2 0 (by omega)) Tryz.func212 ic212_eq (rs := [.t 4]) (by kernel_rfl) (by kernel_rfl) (by kernel_rfl) fun G hP hA => ?_
  unfold evF ic212
  conv => whnf
  (refine call_auto hP (hth) ?_; conv => whnf); (refine ⟨⟨rfl, rfl, rfl, has_a, rfl, rfl⟩, ?_⟩; conv => whnf)
  (repeat' (first | (refine And.intro (by (first | omega | assumption | (simp only [nadd_eq]; omega) | (simp [nadd_eq]; omega))) ?_; conv => whnf) | (refine arI64 (by omega) (by omega) ?_; conv => whnf) | (refine arU32 (by omega) (by omega) ?_; conv => whnf) | (refine arU8 (by omega) (by omega) ?_; conv => whnf)))
  rw [hnt']
  (refine fin_close (H := (seatH n st dl a b)) (np := 2) 0 0 (Nat.le_of_ble_eq_true rfl) ?_; conv => whnf); (refine ⟨⟨rfl, by omega, rfl, rfl, has_a, rfl⟩, ?_⟩)
  (refine fin_auto ?_; conv => whnf); exact ⟨rfl, rfl, rfl, rfl, has_a, rfl⟩
theorem updB (f : Nat → Bool) (i : Nat) (v : Bool) (j : Nat) : mrgL (j = i) (setMany (boolE f j) 0 [.bool v]) (boolE f j) = boolE (fun j => if j = i then v else f j) j := by
  simp only [boolE, setMany, setL, mrgL, mrg_eq]
  by_cases h : j = i <;> simp [h]
/-- A flat lock, open, and its port (name 1). -/
def flatO (n nw : Nat) (nx ow : Int) (st dl nu : Nat → Int) (dr : Nat → Bool) (X : Ent) : Heap := (1, some X) :: flatH1 n nx ow st dl nu dr
def didV (e : Int) (a b c : Bool) : SV := .o (.a [.v (.int .i64 e), .v (.bool a), .v (.bool b), .v (.bool c)])
set_option maxRecDepth 8000 in
theorem flatLock_enq (n nw nx ow t : Nat) (st dl nu ws hs cp ms ac wr : Nat → Int) (dr : Nat → Bool) (ht : t < n) (hn : n ≤ 64) (hnw : nw ≤ 4096) (hnx : nx < nw) (hd : dr t = false) :
    FSpec Tryz.prog 218 (flatO n nw nx ow st dl nu dr (portP n nw ws hs cp ms ac wr)) 5 [.l (.p 0 0 0 0), .l (.v (.int .i64 t)), .l (.v (.int .i64 t))] fun x h k =>
      x = didV 0 true false false ∧ k = 5 ∧ h = flatO n nw nx ow st dl (updF nu t (addW (addW (ws nx) 1) (-1))) (fun j => if j = t then true else dr j) (portW n nw (updF ws nx (addW (ws nx) 1)) hs cp ms ac wr t nx) := by
  have hpa := portAdd_spec n nw ws hs cp ms ac wr t nx 1 ht hnx hn hnw
  have hnt' : nadd 0 ((t : Int)).toNat = t := by simp [nadd_eq]
  refine spec_of_ev Tryz.func218 ic218_eq (rs := [.ca 6 4]) (by kernel_rfl) (by kernel_rfl) (by kernel_rfl) fun G hP hA => ?_
  unfold evF ic218
  conv => whnf
  (repeat' (first | (refine And.intro (by (first | omega | assumption | (simp only [nadd_eq]; omega) | (simp [nadd_eq]; omega))) ?_; conv => whnf) | (refine arI64 (by omega) (by omega) ?_; conv => whnf) | (refine arU32 (by omega) (by omega) ?_; conv => whnf) | (refine arU8 (by omega) (by omega) ?_; conv => whnf)))
  rw [hnt', hd]
  conv => whnf
  (refine drawP_intro (by rw [hP]; exact follows) (by kernel_rfl) ?_; conv => whnf)
  (refine callD_auto hP (hpa) ?_; conv => whnf); (refine ⟨⟨rfl, rfl, rfl, has_a, rfl, rfl⟩, ?_⟩; conv => whnf)
  (repeat' (first | (refine And.intro (by (first | omega | assumption | (simp only [nadd_eq]; omega) | (simp [nadd_eq]; omega))) ?_; conv => whnf) | (refine arI64 (by omega) (by omega) ?_; conv => whnf) | (refine arU32 (by omega) (by omega) ?_; conv => whnf) | (refine arU8 (by omega) (by omega) ?_; conv => whnf)))
  (repeat (refine And.intro (by (conv => whnf); first | exact ⟨rfl, rfl, rfl⟩ | (refine And.intro (by (first | omega | assumption | (simp only [nadd_eq]; omega) | (simp [nadd_eq]; omega))) ?_; (conv => whnf); exact ⟨rfl, rfl, rfl⟩)) ?_; conv => whnf))
  rw [hnt']
  (refine fin_auto ?_; conv => whnf); refine ⟨rfl, rfl, rfl, ?_, ?_, rfl⟩
  · rfl
  · exact ⟨has_a, rfl, has_a, ⟨rfl, rfl, fun j hj => updE nu t _ j⟩, ⟨rfl, rfl, fun j hj => updB dr t true j⟩, trivial⟩
set_option maxRecDepth 8000 in
theorem flatLock_got (n nw nx ow t : Nat) (st dl nu ws hs cp ms ac wr : Nat → Int) (dr : Nat → Bool) (ht : t < n) (hn : n ≤ 64) (hnw : nw ≤ 4096) (hnx : ow < nw) (hd : dr t = true) (hw : ws ow = nu t) :
    FSpec Tryz.prog 218 (flatO n nw nx ow st dl nu dr (portP n nw ws hs cp ms ac wr)) 5 [.l (.p 0 0 0 0), .l (.v (.int .i64 t)), .l (.v (.int .i64 t))] fun x h k =>
      x = didV 1 false false false ∧ k = 5 ∧ h = flatO n nw nx ow st dl nu dr (portR n nw ws hs cp ms ac wr t ow) := by
  have hpa := portLoad_spec n nw ws hs cp ms ac wr t ow ht hnx hn hnw
  have hnt' : nadd 0 ((t : Int)).toNat = t := by simp [nadd_eq]
  refine spec_of_ev Tryz.func218 ic218_eq (rs := [.ca 6 4]) (by kernel_rfl) (by kernel_rfl) (by kernel_rfl) fun G hP hA => ?_
  unfold evF ic218
  conv => whnf
  (repeat' (first | (refine And.intro (by (first | omega | assumption | (simp only [nadd_eq]; omega) | (simp [nadd_eq]; omega))) ?_; conv => whnf) | (refine arI64 (by omega) (by omega) ?_; conv => whnf) | (refine arU32 (by omega) (by omega) ?_; conv => whnf) | (refine arU8 (by omega) (by omega) ?_; conv => whnf)))
  rw [hnt', hd]
  conv => whnf
  (refine drawP_intro (by rw [hP]; exact follows) (by kernel_rfl) ?_; conv => whnf)
  (refine callD_auto hP (hpa) ?_; conv => whnf); (refine ⟨⟨rfl, rfl, rfl, has_a, rfl, rfl⟩, ?_⟩; conv => whnf)
  (repeat' (first | (refine And.intro (by (first | omega | assumption | (simp only [nadd_eq]; omega) | (simp [nadd_eq]; omega))) ?_; conv => whnf) | (refine arI64 (by omega) (by omega) ?_; conv => whnf) | (refine arU32 (by omega) (by omega) ?_; conv => whnf) | (refine arU8 (by omega) (by omega) ?_; conv => whnf)))
  (repeat (refine And.intro (by (conv => whnf); first | exact ⟨rfl, rfl, rfl⟩ | (refine And.intro (by (first | omega | assumption | (simp only [nadd_eq]; omega) | (simp [nadd_eq]; omega))) ?_; (conv => whnf); exact ⟨rfl, rfl, rfl⟩)) ?_; conv => whnf))
  rw [hnt']
  refine dsplit (fun _ => ?_) (fun hq => absurd hw hq)
  conv => whnf
  (refine fin_auto ?_; conv => whnf); exact ⟨rfl, rfl, rfl, rfl, has_a, rfl⟩
end Go.Proofs.YtlkfolopbehikaaGreat
set_option linter.unusedSimpArgs false
set_option linter.unusedVariables false
namespace Go.Proofs.YtlkfolopbehikaaGreat
open Go Go.Sx

theorem next10 : FSpec Tryz.prog 225 [] 0 [.l (.v (.int .i64 1)), .l (.v (.int .i64 0))] fun x h k => x = sInt .i64 (-1) ∧ k = 0 ∧ h = [] := by
  refine spec_of_ev Tryz.func225 ic225_eq (rs := [.t 4]) (by kernel_rfl) (by kernel_rfl) (by kernel_rfl) fun G hP hA => ?_
  unfold evF ic225
  conv => whnf
  (refine fin_auto ?_; conv => whnf); exact ⟨rfl, rfl, rfl, rfl, has_a, rfl⟩
theorem next11 : FSpec Tryz.prog 225 [] 0 [.l (.v (.int .i64 1)), .l (.v (.int .i64 1))] fun x h k => x = sInt .i64 2 ∧ k = 0 ∧ h = [] := by
  refine spec_of_ev Tryz.func225 ic225_eq (rs := [.t 4]) (by kernel_rfl) (by kernel_rfl) (by kernel_rfl) fun G hP hA => ?_
  unfold evF ic225
  conv => whnf
  (refine fin_auto ?_; conv => whnf); exact ⟨rfl, rfl, rfl, rfl, has_a, rfl⟩
theorem updS (f g : Nat → Int) (i : Nat) (u v : Int) (j : Nat) : mrgL (j = i) (setMany (seatE f g j) 0 [.int .i64 u, .int .i64 v]) (seatE f g j) = seatE (updF f i u) (updF g i v) j := by
  simp only [seatE, updF, setMany, setL, mrgL, mrg_eq]
  by_cases h : j = i <;> simp [h]
theorem seatEnd_no (n : Nat) (st dl : Nat → Int) (a b : Bool) (t : Nat) (ht : t < n) (hn : n ≤ 64) (hs : st t = 1) : FSpec Tryz.prog 221 [(0, some (seatP n st dl a b))] 1 [.l (.p 0 0 0 0), .l (.v (.int .i64 t)), .l (.v (.int .i64 0))] fun x h k => x = sBool false ∧ k = 1 ∧ h = [(0, some (seatP n st dl a b))] := by
  have hst := seatState_spec n st dl a b t ht hn
  rw [hs] at hst
  have hne := next10
  refine spec_of_ev Tryz.func221 ic221_eq (rs := [.t 6]) (by kernel_rfl) (by kernel_rfl) (by kernel_rfl) fun G hP hA => ?_
  unfold evF ic221
  conv => whnf
  (refine call_auto hP (hst) ?_; conv => whnf); (refine ⟨⟨rfl, rfl, rfl, has_a, rfl, rfl⟩, ?_⟩; conv => whnf)
  (refine call_auto hP (hne) ?_; conv => whnf); (refine ⟨⟨rfl, rfl, rfl, has_a, rfl, rfl⟩, ?_⟩; conv => whnf)
  (refine fin_auto ?_; conv => whnf); exact ⟨rfl, rfl, rfl, rfl, has_a, rfl⟩
theorem seatEnd_got (n : Nat) (st dl : Nat → Int) (a b : Bool) (t : Nat) (ht : t < n) (hn : n ≤ 64) (hs : st t = 1) : FSpec Tryz.prog 221 [(0, some (seatP n st dl a b))] 1 [.l (.p 0 0 0 0), .l (.v (.int .i64 t)), .l (.v (.int .i64 1))] fun x h k => x = sBool true ∧ k = 1 ∧ h = [(0, some (seatP n (updF st t 2) (updF dl t (-1)) a b))] := by
  have hst := seatState_in n st dl a b t ht hn
  rw [hs] at hst
  have hne := next11
  have hnt' : nadd 0 ((t : Int)).toNat = t := by simp [nadd_eq]
  refine spec_of_ev_g (open_spec (seatH n st dl a b) 2 0 (by omega)) Tryz.func221 ic221_eq (rs := [.t 6]) (by kernel_rfl) (by kernel_rfl) (by kernel_rfl) fun G hP hA => ?_
  unfold evF ic221
  conv => whnf
  (refine call_auto hP (hst) ?_; conv => whnf); (refine ⟨⟨rfl, rfl, rfl, has_a, rfl, rfl⟩, ?_⟩; conv => whnf)
  (refine call_auto hP (hne) ?_; conv => whnf); (refine ⟨⟨rfl, rfl, rfl, has_a, rfl, rfl⟩, ?_⟩; conv => whnf)
  (repeat' (first | (refine And.intro (by (first | omega | assumption | (simp only [nadd_eq]; omega) | (simp [nadd_eq]; omega))) ?_; conv => whnf) | (refine arI64 (by omega) (by omega) ?_; conv => whnf) | (refine arU32 (by omega) (by omega) ?_; conv => whnf) | (refine arU8 (by omega) (by omega) ?_; conv => whnf)))
  rw [hnt']
  (refine fin_close (H := (seatH n (updF st t 2) (updF dl t (-1)) a b)) (np := 2) 0 0 (Nat.le_of_ble_eq_true rfl) ?_; conv => whnf); (refine ⟨⟨rfl, by omega, rfl, rfl, ?_, rfl⟩, ?_⟩)
  · exact ⟨rfl, ⟨rfl, rfl, fun j hj => updS st dl t 2 (-1) j⟩, trivial⟩
  conv => whnf
  (refine fin_auto ?_; conv => whnf); exact ⟨rfl, rfl, rfl, rfl, has_a, rfl⟩
set_option maxRecDepth 8000 in
theorem flatStep_enq (n nw nx ow t : Nat) (now : Int) (st dl nu ws hs cp ms ac wr : Nat → Int) (dr : Nat → Bool) (ht : t < n) (hn : n ≤ 64) (hnw : nw ≤ 4096) (hnx : nx < nw) (hs1 : st t = 1) (hd : dr t = false) :
    FSpec Tryz.prog 213 (flatO n nw nx ow st dl nu dr (portP n nw ws hs cp ms ac wr)) 5 [.l (.p 0 0 0 0), .l (.v (.int .i64 t)), .l (.v (.int .i64 t)), .l (.v (.int .i64 now))] fun x h k =>
      x = didV 0 true false false ∧ k = 5 ∧ h = flatO n nw nx ow st dl (updF nu t (addW (addW (ws nx) 1) (-1))) (fun j => if j = t then true else dr j) (portW n nw (updF ws nx (addW (ws nx) 1)) hs cp ms ac wr t nx) := by
  have hst := seatState_spec n st dl false true t ht hn
  rw [hs1] at hst
  have hlk := flatLock_enq n nw nx ow t st dl nu ws hs cp ms ac wr dr ht hn hnw hnx hd
  have hen := seatEnd_no n st dl false true t ht hn hs1
  refine spec_of_ev Tryz.func213 ic213_eq (rs := [.ca 8 4]) (by kernel_rfl) (by kernel_rfl) (by kernel_rfl) fun G hP hA => ?_
  unfold evF ic213
  conv => whnf
  (refine join_plain ?_; conv => whnf)
  conv => whnf
  (refine call_auto hP (hst) ?_; conv => whnf); (refine ⟨⟨rfl, rfl, rfl, has_a, rfl, rfl⟩, ?_⟩; conv => whnf)
  (refine call_auto hP (hlk) ?_; conv => whnf); (refine ⟨⟨rfl, rfl, rfl, has_a, rfl, rfl⟩, ?_⟩; conv => whnf)
  (refine drawP_intro (by rw [hP]; exact follows) (by kernel_rfl) ?_; conv => whnf)
  (refine callD_auto hP (hen) ?_; conv => whnf); (refine ⟨⟨rfl, rfl, rfl, has_a, rfl, rfl⟩, ?_⟩; conv => whnf)
  (repeat (refine And.intro (by (conv => whnf); first | exact ⟨rfl, rfl, rfl⟩ | (refine And.intro (by (first | omega | assumption | (simp only [nadd_eq]; omega) | (simp [nadd_eq]; omega))) ?_; (conv => whnf); exact ⟨rfl, rfl, rfl⟩)) ?_; conv => whnf))
  conv => whnf
  (refine fin_auto ?_; conv => whnf); exact ⟨rfl, rfl, rfl, rfl, has_a, rfl⟩
set_option maxRecDepth 8000 in
theorem flatStep_got (n nw nx ow t : Nat) (now : Int) (st dl nu ws hs cp ms ac wr : Nat → Int) (dr : Nat → Bool) (ht : t < n) (hn : n ≤ 64) (hnw : nw ≤ 4096) (hnx : ow < nw) (hs1 : st t = 1) (hd : dr t = true) (hw : ws ow = nu t) :
    FSpec Tryz.prog 213 (flatO n nw nx ow st dl nu dr (portP n nw ws hs cp ms ac wr)) 5 [.l (.p 0 0 0 0), .l (.v (.int .i64 t)), .l (.v (.int .i64 t)), .l (.v (.int .i64 now))] fun x h k =>
      x = didV 1 false false false ∧ k = 5 ∧ h = flatO n nw nx ow (updF st t 2) (updF dl t (-1)) nu dr (portR n nw ws hs cp ms ac wr t ow) := by
  have hst := seatState_spec n st dl false true t ht hn
  rw [hs1] at hst
  have hlk := flatLock_got n nw nx ow t st dl nu ws hs cp ms ac wr dr ht hn hnw hnx hd hw
  have hen := seatEnd_got n st dl false true t ht hn hs1
  refine spec_of_ev Tryz.func213 ic213_eq (rs := [.ca 8 4]) (by kernel_rfl) (by kernel_rfl) (by kernel_rfl) fun G hP hA => ?_
  unfold evF ic213
  conv => whnf
  (refine join_plain ?_; conv => whnf)
  conv => whnf
  (refine call_auto hP (hst) ?_; conv => whnf); (refine ⟨⟨rfl, rfl, rfl, has_a, rfl, rfl⟩, ?_⟩; conv => whnf)
  (refine call_auto hP (hlk) ?_; conv => whnf); (refine ⟨⟨rfl, rfl, rfl, has_a, rfl, rfl⟩, ?_⟩; conv => whnf)
  (refine drawP_intro (by rw [hP]; exact follows) (by kernel_rfl) ?_; conv => whnf)
  (refine callD_auto hP (hen) ?_; conv => whnf); (refine ⟨⟨rfl, rfl, rfl, has_a, rfl, rfl⟩, ?_⟩; conv => whnf)
  (repeat (refine And.intro (by (conv => whnf); first | exact ⟨rfl, rfl, rfl⟩ | (refine And.intro (by (first | omega | assumption | (simp only [nadd_eq]; omega) | (simp [nadd_eq]; omega))) ?_; (conv => whnf); exact ⟨rfl, rfl, rfl⟩)) ?_; conv => whnf))
  conv => whnf
  (refine fin_auto ?_; conv => whnf); exact ⟨rfl, rfl, rfl, rfl, has_a, rfl⟩
end Go.Proofs.YtlkfolopbehikaaGreat
set_option linter.unusedSimpArgs false
set_option linter.unusedVariables false
namespace Go.Proofs.YtlkfolopbehikaaGreat
open Go Go.Sx

theorem seatLock_ok (n : Nat) (st dl : Nat → Int) (a b : Bool) (t : Nat) (ht : t < n) (hn : n ≤ 64) (hs : st t = 0) : FSpec Tryz.prog 210 [(0, some (seatP n st dl a b))] 1 [.l (.p 0 0 0 0), .l (.v (.int .i64 t)), .l (.v (.int .i64 (-1)))] fun x h k => x = sInt .i64 0 ∧ k = 1 ∧ h = [(0, some (seatP n (updF st t 1) (updF dl t (-1)) a b))] := by
  have hth := seatThere_in n st dl a b t ht hn
  have hnt' : nadd 0 ((t : Int)).toNat = t := by simp [nadd_eq]
  refine spec_of_ev_g (open_spec (seatH n st dl a b) 2 0 (by omega)) Tryz.func210 ic210_eq (rs := [.t 6]) (by kernel_rfl) (by kernel_rfl) (by kernel_rfl) fun G hP hA => ?_
  unfold evF ic210
  conv => whnf
  (refine join_plain ?_; conv => whnf)
  conv => whnf
  (refine call_auto hP (hth) ?_; conv => whnf); (refine ⟨⟨rfl, rfl, rfl, has_a, rfl, rfl⟩, ?_⟩; conv => whnf)
  (repeat' (first | (refine And.intro (by (first | omega | assumption | (simp only [nadd_eq]; omega) | (simp [nadd_eq]; omega))) ?_; conv => whnf) | (refine arI64 (by omega) (by omega) ?_; conv => whnf) | (refine arU32 (by omega) (by omega) ?_; conv => whnf) | (refine arU8 (by omega) (by omega) ?_; conv => whnf)))
  rw [hnt', hs]
  conv => whnf
  (repeat' (first | (refine And.intro (by (first | omega | assumption | (simp only [nadd_eq]; omega) | (simp [nadd_eq]; omega))) ?_; conv => whnf) | (refine arI64 (by omega) (by omega) ?_; conv => whnf) | (refine arU32 (by omega) (by omega) ?_; conv => whnf) | (refine arU8 (by omega) (by omega) ?_; conv => whnf)))
  (refine fin_close (H := (seatH n (updF st t 1) (updF dl t (-1)) a b)) (np := 2) 0 0 (Nat.le_of_ble_eq_true rfl) ?_; conv => whnf); (refine ⟨⟨rfl, by omega, rfl, rfl, ?_, rfl⟩, ?_⟩)
  · exact ⟨rfl, ⟨rfl, rfl, fun j hj => updS st dl t 1 (-1) j⟩, trivial⟩
  conv => whnf
  (refine fin_auto ?_; conv => whnf); exact ⟨rfl, rfl, rfl, rfl, has_a, rfl⟩
end Go.Proofs.YtlkfolopbehikaaGreat
set_option linter.unusedSimpArgs false
set_option linter.unusedVariables false
namespace Go.Proofs.YtlkfolopbehikaaGreat
open Go Go.Sx

/-- A new machine's own cells: its port (name p), its lock (name l, of type ty), its steps (name s). -/
def machC (ty p l s m : Nat) : List LV := [.p p 0 0 0, .i ty l, .v (.slice none 0 0), .v (.int .i64 0), .v (.int .i64 0), .s s 1 0 m 0]
theorem machNow_spec (ty m : Nat) : FSpec Tryz.prog 20 [(0, some (.st (machC ty 1 2 3 m)))] 4 [.l (.p 0 0 0 0)] fun x h k => x = sInt .i64 0 ∧ k = 4 ∧ h = [(0, some (.st (machC ty 1 2 3 m)))] := by
  refine spec_of_ev Tryz.func20 ic20_eq (rs := [.t 2]) (by kernel_rfl) (by kernel_rfl) (by kernel_rfl) fun G hP hA => ?_
  unfold evF ic20
  conv => whnf
  (refine fin_auto ?_; conv => whnf); exact ⟨rfl, rfl, rfl, rfl, has_a, rfl⟩
theorem machIdle_spec (ty m : Nat) : FSpec Tryz.prog 22 [(0, some (.st (machC ty 1 2 3 m)))] 4 [.l (.p 0 0 0 0)] fun x h k => x = sInt .i64 0 ∧ k = 4 ∧ h = [(0, some (.st (machC ty 1 2 3 m)))] := by
  refine spec_of_ev Tryz.func22 ic22_eq (rs := [.t 2]) (by kernel_rfl) (by kernel_rfl) (by kernel_rfl) fun G hP hA => ?_
  unfold evF ic22
  conv => whnf
  (refine fin_auto ?_; conv => whnf); exact ⟨rfl, rfl, rfl, rfl, has_a, rfl⟩
theorem esc_isnil0 {G : Ctx} {ty el ty2 : TypeId} {t : Nat} {r : Regs} {h : Heap} {n : Nat} {K : SV → Heap → Nat → Prop}
    (hs : G.P.underlying ty = some (.slice el)) (hv : rget r t = some (.o (.l (.v (.slice none 0 0))))) (hK : K (sBool true) [] n) : EscP G (.binOp .eql ty (.tmp t) (.const (.slice none 0 0)) ty2) r h n K := by
  rw [EscP_eq]
  intro G' hP o ρ φ a w ho g hr
  rw [← hP] at hs
  obtain ⟨h1, h2⟩ := oget_eval hr (X := .tmp t) (x := .r t) rfl (v := .l (.v (.slice none 0 0))) (by simp only [oget, hv])
  have hx : a.eval (.tmp t) = .slice none 0 0 := h1
  have hc : a.eval (.const (.slice none 0 0)) = .slice none 0 0 := rfl
  refine .of_runs (runs_pure g (x := sBool true) trivial hK ?_)
  simp [execOp, ho, hx, hc, eqGuard, run_eql_slice_nil w ty el none 0 0 hs, sBool, SV.at, AV.at, LV.at]
theorem cloneT_nil : FSpec Tryz.prog 55 [] 0 [.l (.v (.slice none 0 0))] fun x h n => x = .o (.l (.v (.slice none 0 0))) ∧ n = 0 ∧ h = [] := by
  refine spec_of_ev Tryz.func55 ic55_eq (rs := [.t 2]) (by kernel_rfl) (by kernel_rfl) (by kernel_rfl) fun G hP hA => ?_
  unfold evF ic55
  conv => whnf
  refine esc_isnil0 (el := 46) (by rw [hP]; kernel_rfl) rfl ?_
  conv => whnf
  (refine fin_auto ?_; conv => whnf); exact ⟨rfl, rfl, rfl, rfl, has_a, rfl⟩
theorem machTrace_nil (ty m : Nat) : FSpec Tryz.prog 21 [(0, some (.st (machC ty 1 2 3 m)))] 4 [.l (.p 0 0 0 0)] fun x h k => x = .o (.l (.v (.slice none 0 0))) ∧ k = 4 ∧ h = [(0, some (.st (machC ty 1 2 3 m)))] := by
  have hc := cloneT_nil
  refine spec_of_ev Tryz.func21 ic21_eq (rs := [.t 2]) (by kernel_rfl) (by kernel_rfl) (by kernel_rfl) fun G hP hA => ?_
  unfold evF ic21
  conv => whnf
  (refine call_auto hP (hc) ?_; conv => whnf); (refine ⟨⟨rfl, rfl, rfl, has_a, rfl, rfl⟩, ?_⟩; conv => whnf)
  (refine fin_auto ?_; conv => whnf); exact ⟨rfl, rfl, rfl, rfl, has_a, rfl⟩
end Go.Proofs.YtlkfolopbehikaaGreat
set_option linter.unusedSimpArgs false
set_option linter.unusedVariables false
namespace Go.Proofs.YtlkfolopbehikaaGreat
open Go Go.Sx

set_option maxRecDepth 8000 in
theorem machNew1_spec (m : Nat) (h : Nat → Int) (start : Nat) (slots pool budget glob loc : Int) (h2 : 1 ≤ m ∧ m ≤ 64) (hb : anyZ badH h m = false)  :
    FSpec Tryz.prog 16 [(0, some (.ro 1 m (numE h)))] 1 [confA 1 0 m start slots pool budget glob loc] fun x h' kk => x = .t [.l (.p 3 0 0 0), .l (.v (.int .i64 0))] ∧ kk = 5 ∧
      h' = [(1, some (.ob [2] (PackR (flatH1 m 0 1 (fun _ => 0) (fun _ => -1) (fun _ => 0) fun _ => false) 5))), (2, some (portP m (2) (cutF (flatWs (fun _ => 0) 0 start) (2)) (flatHs (fun _ => 0) 0 h) (fun _ => 0) (fun _ => 0) (fun _ => 0) fun _ => 0)), (3, some (.st (machC 221 2 1 4 m))), (4, some (.ar 1 m (numE fun _ => 0)))] := by
  have hbn := buildNew1_ok h m start slots pool budget glob loc h2 hb
  have hsl := seatLen_spec m (fun _ => 0) (fun _ => -1) false true
  refine spec_of_ev Tryz.func16 ic16_eq (rs := [.t 2, .t 3]) (by kernel_rfl) (by kernel_rfl) (by kernel_rfl) fun G hP hA => ?_
  unfold evF ic16
  conv => whnf
  (refine call_auto hP (hbn) ?_; conv => whnf); (refine ⟨⟨rfl, rfl, rfl, has_a, rfl, rfl⟩, ?_⟩; conv => whnf)
  refine invP_ghost (open_at 2 rfl (by decide) rfl rfl rfl) ?_
  refine inv_promc hP invLen_flat rfl rfl ?_
  conv => whnf
  (refine call_auto hP (hsl) ?_; conv => whnf); (refine ⟨⟨rfl, rfl, rfl, has_a, rfl, rfl⟩, ?_⟩; conv => whnf)
  (repeat' (first | (refine And.intro (by (first | omega | assumption | (simp only [nadd_eq]; omega) | (simp [nadd_eq]; omega))) ?_; conv => whnf) | (refine arI64 (by omega) (by omega) ?_; conv => whnf) | (refine arU32 (by omega) (by omega) ?_; conv => whnf) | (refine arU8 (by omega) (by omega) ?_; conv => whnf)))
  (refine fin_close (H := (flatH1 m 0 1 (fun _ => 0) (fun _ => -1) (fun _ => 0) fun _ => false)) (np := 5) 2 1 (Nat.le_of_ble_eq_true rfl) ?_; conv => whnf); (refine ⟨⟨rfl, by omega, rfl, rfl, has_a, rfl⟩, ?_⟩)
  (refine fin_auto ?_; conv => whnf); exact ⟨rfl, rfl, rfl, rfl, has_a, rfl⟩
set_option maxRecDepth 8000 in
theorem machLen1_spec (m : Nat) (h : Nat → Int) (start : Nat) (slots pool budget glob loc : Int) :
    FSpec Tryz.prog 19 [(0, some (.st (machC 221 1 2 3 m))), (2, some (.ob [1] (PackR (flatH1 m 0 1 (fun _ => 0) (fun _ => -1) (fun _ => 0) fun _ => false) 5)))] 4 [.l (.p 0 0 0 0)] fun x h' kk => x = sInt .i64 (m : Int) ∧ kk = 4 ∧
      h' = [(0, some (.st (machC 221 1 2 3 m))), (2, some (.ob [1] (PackR (flatH1 m 0 1 (fun _ => 0) (fun _ => -1) (fun _ => 0) fun _ => false) 5)))] := by
  have hsl := seatLen_spec m (fun _ => 0) (fun _ => -1) false true
  refine spec_of_ev Tryz.func19 ic19_eq (rs := [.t 2]) (by kernel_rfl) (by kernel_rfl) (by kernel_rfl) fun G hP hA => ?_
  unfold evF ic19
  conv => whnf
  refine invP_ghost (open_at 2 rfl (by decide) rfl rfl rfl) ?_
  refine inv_promc hP invLen_flat rfl rfl ?_
  conv => whnf
  (refine call_auto hP (hsl) ?_; conv => whnf); (refine ⟨⟨rfl, rfl, rfl, has_a, rfl, rfl⟩, ?_⟩; conv => whnf)
  (refine fin_close (H := (flatH1 m 0 1 (fun _ => 0) (fun _ => -1) (fun _ => 0) fun _ => false)) (np := 5) 2 1 (Nat.le_of_ble_eq_true rfl) ?_; conv => whnf); (refine ⟨⟨rfl, by omega, rfl, rfl, has_a, rfl⟩, ?_⟩)
  (refine fin_auto ?_; conv => whnf); exact ⟨rfl, rfl, rfl, rfl, has_a, rfl⟩
end Go.Proofs.YtlkfolopbehikaaGreat
set_option linter.unusedSimpArgs false
set_option linter.unusedVariables false
namespace Go.Proofs.YtlkfolopbehikaaGreat
open Go Go.Sx

set_option maxRecDepth 8000 in
theorem machNew2_spec (m : Nat) (h : Nat → Int) (start slots : Nat) (pool budget glob loc : Int) (h2 : 1 ≤ m ∧ m ≤ 64) (hb : anyZ badH h m = false) (hu : start < 4294967296) (hn : isSize slots) (hmn : m ≤ slots) :
    FSpec Tryz.prog 16 [(0, some (.ro 1 m (numE h)))] 1 [confA 2 0 m start slots pool budget glob loc] fun x h' kk => x = .t [.l (.p 3 0 0 0), .l (.v (.int .i64 0))] ∧ kk = 5 ∧
      h' = [(1, some (.ob [2] (PackR (slotsH1 m 0 slots (fun _ => 0) (fun _ => -1) (fun _ => 0) (fun _ => 0)) 4))), (2, some (portP m (1 + slots) (cutF (slotsWs (fun _ => 0) 0 start slots) (1 + slots)) (slotsHs (fun _ => 0) 0 h m slots) (fun _ => 0) (fun _ => 0) (fun _ => 0) fun _ => 0)), (3, some (.st (machC 224 2 1 4 m))), (4, some (.ar 1 m (numE fun _ => 0)))] := by
  have hbn := buildNew2_ok h m start slots pool budget glob loc h2 hu hn hmn hb
  have hsl := seatLen_spec m (fun _ => 0) (fun _ => -1) false false
  refine spec_of_ev Tryz.func16 ic16_eq (rs := [.t 2, .t 3]) (by kernel_rfl) (by kernel_rfl) (by kernel_rfl) fun G hP hA => ?_
  unfold evF ic16
  conv => whnf
  (refine call_auto hP (hbn) ?_; conv => whnf); (refine ⟨⟨rfl, rfl, rfl, has_a, rfl, rfl⟩, ?_⟩; conv => whnf)
  refine invP_ghost (open_at 2 rfl (by decide) rfl rfl rfl) ?_
  refine inv_promc hP invLen_slots rfl rfl ?_
  conv => whnf
  (refine call_auto hP (hsl) ?_; conv => whnf); (refine ⟨⟨rfl, rfl, rfl, has_a, rfl, rfl⟩, ?_⟩; conv => whnf)
  (repeat' (first | (refine And.intro (by (first | omega | assumption | (simp only [nadd_eq]; omega) | (simp [nadd_eq]; omega))) ?_; conv => whnf) | (refine arI64 (by omega) (by omega) ?_; conv => whnf) | (refine arU32 (by omega) (by omega) ?_; conv => whnf) | (refine arU8 (by omega) (by omega) ?_; conv => whnf)))
  (refine fin_close (H := (slotsH1 m 0 slots (fun _ => 0) (fun _ => -1) (fun _ => 0) (fun _ => 0))) (np := 4) 2 1 (Nat.le_of_ble_eq_true rfl) ?_; conv => whnf); (refine ⟨⟨rfl, by omega, rfl, rfl, has_a, rfl⟩, ?_⟩)
  (refine fin_auto ?_; conv => whnf); exact ⟨rfl, rfl, rfl, rfl, has_a, rfl⟩
set_option maxRecDepth 8000 in
theorem machLen2_spec (m : Nat) (h : Nat → Int) (start slots : Nat) (pool budget glob loc : Int) :
    FSpec Tryz.prog 19 [(0, some (.st (machC 224 1 2 3 m))), (2, some (.ob [1] (PackR (slotsH1 m 0 slots (fun _ => 0) (fun _ => -1) (fun _ => 0) (fun _ => 0)) 4)))] 4 [.l (.p 0 0 0 0)] fun x h' kk => x = sInt .i64 (m : Int) ∧ kk = 4 ∧
      h' = [(0, some (.st (machC 224 1 2 3 m))), (2, some (.ob [1] (PackR (slotsH1 m 0 slots (fun _ => 0) (fun _ => -1) (fun _ => 0) (fun _ => 0)) 4)))] := by
  have hsl := seatLen_spec m (fun _ => 0) (fun _ => -1) false false
  refine spec_of_ev Tryz.func19 ic19_eq (rs := [.t 2]) (by kernel_rfl) (by kernel_rfl) (by kernel_rfl) fun G hP hA => ?_
  unfold evF ic19
  conv => whnf
  refine invP_ghost (open_at 2 rfl (by decide) rfl rfl rfl) ?_
  refine inv_promc hP invLen_slots rfl rfl ?_
  conv => whnf
  (refine call_auto hP (hsl) ?_; conv => whnf); (refine ⟨⟨rfl, rfl, rfl, has_a, rfl, rfl⟩, ?_⟩; conv => whnf)
  (refine fin_close (H := (slotsH1 m 0 slots (fun _ => 0) (fun _ => -1) (fun _ => 0) (fun _ => 0))) (np := 4) 2 1 (Nat.le_of_ble_eq_true rfl) ?_; conv => whnf); (refine ⟨⟨rfl, by omega, rfl, rfl, has_a, rfl⟩, ?_⟩)
  (refine fin_auto ?_; conv => whnf); exact ⟨rfl, rfl, rfl, rfl, has_a, rfl⟩
end Go.Proofs.YtlkfolopbehikaaGreat
set_option linter.unusedSimpArgs false
set_option linter.unusedVariables false
namespace Go.Proofs.YtlkfolopbehikaaGreat
open Go Go.Sx

set_option maxRecDepth 8000 in
theorem machNew3_spec (m : Nat) (h : Nat → Int) (start : Nat) (slots pool budget glob loc : Int) (h2 : 1 ≤ m ∧ m ≤ 64) (hb : anyZ badH h m = false)  :
    FSpec Tryz.prog 16 [(0, some (.ro 1 m (numE h)))] 1 [confA 3 0 m start slots pool budget glob loc] fun x h' kk => x = .t [.l (.p 3 0 0 0), .l (.v (.int .i64 0))] ∧ kk = 5 ∧
      h' = [(1, some (.ob [2] (PackR (clhH1 m 0 (fun _ => 0) (fun _ => -1) (fun i => i + 1) (fun _ => 0) (fun _ => 0)) 4))), (2, some (portP m (2 + m) (cutF (clhWs (fun _ => 0) 0 m) (2 + m)) (clhHs (fun _ => 0) 0 h m) (fun _ => 0) (fun _ => 0) (fun _ => 0) fun _ => 0)), (3, some (.st (machC 227 2 1 4 m))), (4, some (.ar 1 m (numE fun _ => 0)))] := by
  have hbn := buildNew3_ok h m start slots pool budget glob loc h2 hb
  have hsl := seatLen_spec m (fun _ => 0) (fun _ => -1) false true
  refine spec_of_ev Tryz.func16 ic16_eq (rs := [.t 2, .t 3]) (by kernel_rfl) (by kernel_rfl) (by kernel_rfl) fun G hP hA => ?_
  unfold evF ic16
  conv => whnf
  (refine call_auto hP (hbn) ?_; conv => whnf); (refine ⟨⟨rfl, rfl, rfl, has_a, rfl, rfl⟩, ?_⟩; conv => whnf)
  refine invP_ghost (open_at 2 rfl (by decide) rfl rfl rfl) ?_
  refine inv_promc hP invLen_clh rfl rfl ?_
  conv => whnf
  (refine call_auto hP (hsl) ?_; conv => whnf); (refine ⟨⟨rfl, rfl, rfl, has_a, rfl, rfl⟩, ?_⟩; conv => whnf)
  (repeat' (first | (refine And.intro (by (first | omega | assumption | (simp only [nadd_eq]; omega) | (simp [nadd_eq]; omega))) ?_; conv => whnf) | (refine arI64 (by omega) (by omega) ?_; conv => whnf) | (refine arU32 (by omega) (by omega) ?_; conv => whnf) | (refine arU8 (by omega) (by omega) ?_; conv => whnf)))
  (refine fin_close (H := (clhH1 m 0 (fun _ => 0) (fun _ => -1) (fun i => i + 1) (fun _ => 0) (fun _ => 0))) (np := 4) 2 1 (Nat.le_of_ble_eq_true rfl) ?_; conv => whnf); (refine ⟨⟨rfl, by omega, rfl, rfl, has_a, rfl⟩, ?_⟩)
  (refine fin_auto ?_; conv => whnf); exact ⟨rfl, rfl, rfl, rfl, has_a, rfl⟩
set_option maxRecDepth 8000 in
theorem machLen3_spec (m : Nat) (h : Nat → Int) (start : Nat) (slots pool budget glob loc : Int) :
    FSpec Tryz.prog 19 [(0, some (.st (machC 227 1 2 3 m))), (2, some (.ob [1] (PackR (clhH1 m 0 (fun _ => 0) (fun _ => -1) (fun i => i + 1) (fun _ => 0) (fun _ => 0)) 4)))] 4 [.l (.p 0 0 0 0)] fun x h' kk => x = sInt .i64 (m : Int) ∧ kk = 4 ∧
      h' = [(0, some (.st (machC 227 1 2 3 m))), (2, some (.ob [1] (PackR (clhH1 m 0 (fun _ => 0) (fun _ => -1) (fun i => i + 1) (fun _ => 0) (fun _ => 0)) 4)))] := by
  have hsl := seatLen_spec m (fun _ => 0) (fun _ => -1) false true
  refine spec_of_ev Tryz.func19 ic19_eq (rs := [.t 2]) (by kernel_rfl) (by kernel_rfl) (by kernel_rfl) fun G hP hA => ?_
  unfold evF ic19
  conv => whnf
  refine invP_ghost (open_at 2 rfl (by decide) rfl rfl rfl) ?_
  refine inv_promc hP invLen_clh rfl rfl ?_
  conv => whnf
  (refine call_auto hP (hsl) ?_; conv => whnf); (refine ⟨⟨rfl, rfl, rfl, has_a, rfl, rfl⟩, ?_⟩; conv => whnf)
  (refine fin_close (H := (clhH1 m 0 (fun _ => 0) (fun _ => -1) (fun i => i + 1) (fun _ => 0) (fun _ => 0))) (np := 4) 2 1 (Nat.le_of_ble_eq_true rfl) ?_; conv => whnf); (refine ⟨⟨rfl, by omega, rfl, rfl, has_a, rfl⟩, ?_⟩)
  (refine fin_auto ?_; conv => whnf); exact ⟨rfl, rfl, rfl, rfl, has_a, rfl⟩
end Go.Proofs.YtlkfolopbehikaaGreat
set_option linter.unusedSimpArgs false
set_option linter.unusedVariables false
namespace Go.Proofs.YtlkfolopbehikaaGreat
open Go Go.Sx

set_option maxRecDepth 8000 in
theorem machNew4_spec (m : Nat) (h : Nat → Int) (start : Nat) (slots pool budget glob loc : Int) (h2 : 1 ≤ m ∧ m ≤ 64) (hb : anyZ badH h m = false)  :
    FSpec Tryz.prog 16 [(0, some (.ro 1 m (numE h)))] 1 [confA 4 0 m start slots pool budget glob loc] fun x h' kk => x = .t [.l (.p 3 0 0 0), .l (.v (.int .i64 0))] ∧ kk = 5 ∧
      h' = [(1, some (.ob [2] (PackR (mcsH1 m 0 (fun _ => 0) (fun _ => -1) (fun _ => 0) (fun _ => 0)) 4))), (2, some (portP m (1 + 2 * m) (cutF (mcsWs (fun _ => 0) 0 m) (1 + 2 * m)) (mcsHs (fun _ => 0) 0 h m) (fun _ => 0) (fun _ => 0) (fun _ => 0) fun _ => 0)), (3, some (.st (machC 230 2 1 4 m))), (4, some (.ar 1 m (numE fun _ => 0)))] := by
  have hbn := buildNew4_ok h m start slots pool budget glob loc h2 hb
  have hsl := seatLen_spec m (fun _ => 0) (fun _ => -1) false true
  refine spec_of_ev Tryz.func16 ic16_eq (rs := [.t 2, .t 3]) (by kernel_rfl) (by kernel_rfl) (by kernel_rfl) fun G hP hA => ?_
  unfold evF ic16
  conv => whnf
  (refine call_auto hP (hbn) ?_; conv => whnf); (refine ⟨⟨rfl, rfl, rfl, has_a, rfl, rfl⟩, ?_⟩; conv => whnf)
  refine invP_ghost (open_at 2 rfl (by decide) rfl rfl rfl) ?_
  refine inv_promc hP invLen_mcs rfl rfl ?_
  conv => whnf
  (refine call_auto hP (hsl) ?_; conv => whnf); (refine ⟨⟨rfl, rfl, rfl, has_a, rfl, rfl⟩, ?_⟩; conv => whnf)
  (repeat' (first | (refine And.intro (by (first | omega | assumption | (simp only [nadd_eq]; omega) | (simp [nadd_eq]; omega))) ?_; conv => whnf) | (refine arI64 (by omega) (by omega) ?_; conv => whnf) | (refine arU32 (by omega) (by omega) ?_; conv => whnf) | (refine arU8 (by omega) (by omega) ?_; conv => whnf)))
  (refine fin_close (H := (mcsH1 m 0 (fun _ => 0) (fun _ => -1) (fun _ => 0) (fun _ => 0))) (np := 4) 2 1 (Nat.le_of_ble_eq_true rfl) ?_; conv => whnf); (refine ⟨⟨rfl, by omega, rfl, rfl, has_a, rfl⟩, ?_⟩)
  (refine fin_auto ?_; conv => whnf); exact ⟨rfl, rfl, rfl, rfl, has_a, rfl⟩
set_option maxRecDepth 8000 in
theorem machLen4_spec (m : Nat) (h : Nat → Int) (start : Nat) (slots pool budget glob loc : Int) :
    FSpec Tryz.prog 19 [(0, some (.st (machC 230 1 2 3 m))), (2, some (.ob [1] (PackR (mcsH1 m 0 (fun _ => 0) (fun _ => -1) (fun _ => 0) (fun _ => 0)) 4)))] 4 [.l (.p 0 0 0 0)] fun x h' kk => x = sInt .i64 (m : Int) ∧ kk = 4 ∧
      h' = [(0, some (.st (machC 230 1 2 3 m))), (2, some (.ob [1] (PackR (mcsH1 m 0 (fun _ => 0) (fun _ => -1) (fun _ => 0) (fun _ => 0)) 4)))] := by
  have hsl := seatLen_spec m (fun _ => 0) (fun _ => -1) false true
  refine spec_of_ev Tryz.func19 ic19_eq (rs := [.t 2]) (by kernel_rfl) (by kernel_rfl) (by kernel_rfl) fun G hP hA => ?_
  unfold evF ic19
  conv => whnf
  refine invP_ghost (open_at 2 rfl (by decide) rfl rfl rfl) ?_
  refine inv_promc hP invLen_mcs rfl rfl ?_
  conv => whnf
  (refine call_auto hP (hsl) ?_; conv => whnf); (refine ⟨⟨rfl, rfl, rfl, has_a, rfl, rfl⟩, ?_⟩; conv => whnf)
  (refine fin_close (H := (mcsH1 m 0 (fun _ => 0) (fun _ => -1) (fun _ => 0) (fun _ => 0))) (np := 4) 2 1 (Nat.le_of_ble_eq_true rfl) ?_; conv => whnf); (refine ⟨⟨rfl, by omega, rfl, rfl, has_a, rfl⟩, ?_⟩)
  (refine fin_auto ?_; conv => whnf); exact ⟨rfl, rfl, rfl, rfl, has_a, rfl⟩
end Go.Proofs.YtlkfolopbehikaaGreat
set_option linter.unusedSimpArgs false
set_option linter.unusedVariables false
namespace Go.Proofs.YtlkfolopbehikaaGreat
open Go Go.Sx

set_option maxRecDepth 8000 in
theorem machNew5_spec (m : Nat) (h : Nat → Int) (start : Nat) (slots : Int) (pool : Nat) (budget glob loc : Int) (h2 : 1 ≤ m ∧ m ≤ 64) (hb : anyZ badH h m = false) (hp : 1 ≤ pool ∧ pool ≤ 8) :
    FSpec Tryz.prog 16 [(0, some (.ro 1 m (numE h)))] 1 [confA 5 0 m start slots pool budget glob loc] fun x h' kk => x = .t [.l (.p 3 0 0 0), .l (.v (.int .i64 0))] ∧ kk = 5 ∧
      h' = [(1, some (.ob [2] (PackR (abortH1 m pool 0 (fun _ => 0) (fun _ => -1) (fun _ => 0) (fun _ => 0) (fun _ => 0) (fun _ => 0)) 5))), (2, some (portP m (1 + 3 * pool * m) (cutF (abortWs (fun _ => 0) 0 pool m) (1 + 3 * pool * m)) (abortHs (fun _ => 0) 0 pool h m) (fun _ => 0) (fun _ => 0) (fun _ => 0) fun _ => 0)), (3, some (.st (machC 233 2 1 4 m))), (4, some (.ar 1 m (numE fun _ => 0)))] := by
  have hbn := buildNew5_ok h m pool start slots budget glob loc h2 hp hb
  have hsl := seatLen_spec m (fun _ => 0) (fun _ => -1) true false
  refine spec_of_ev Tryz.func16 ic16_eq (rs := [.t 2, .t 3]) (by kernel_rfl) (by kernel_rfl) (by kernel_rfl) fun G hP hA => ?_
  unfold evF ic16
  conv => whnf
  (refine call_auto hP (hbn) ?_; conv => whnf); (refine ⟨⟨rfl, rfl, rfl, has_a, rfl, rfl⟩, ?_⟩; conv => whnf)
  refine invP_ghost (open_at 2 rfl (by decide) rfl rfl rfl) ?_
  refine inv_promc hP invLen_abort rfl rfl ?_
  conv => whnf
  (refine call_auto hP (hsl) ?_; conv => whnf); (refine ⟨⟨rfl, rfl, rfl, has_a, rfl, rfl⟩, ?_⟩; conv => whnf)
  (repeat' (first | (refine And.intro (by (first | omega | assumption | (simp only [nadd_eq]; omega) | (simp [nadd_eq]; omega))) ?_; conv => whnf) | (refine arI64 (by omega) (by omega) ?_; conv => whnf) | (refine arU32 (by omega) (by omega) ?_; conv => whnf) | (refine arU8 (by omega) (by omega) ?_; conv => whnf)))
  (refine fin_close (H := (abortH1 m pool 0 (fun _ => 0) (fun _ => -1) (fun _ => 0) (fun _ => 0) (fun _ => 0) (fun _ => 0))) (np := 5) 2 1 (Nat.le_of_ble_eq_true rfl) ?_; conv => whnf); (refine ⟨⟨rfl, by omega, rfl, rfl, has_a, rfl⟩, ?_⟩)
  (refine fin_auto ?_; conv => whnf); exact ⟨rfl, rfl, rfl, rfl, has_a, rfl⟩
set_option maxRecDepth 8000 in
theorem machLen5_spec (m : Nat) (h : Nat → Int) (start : Nat) (slots : Int) (pool : Nat) (budget glob loc : Int) :
    FSpec Tryz.prog 19 [(0, some (.st (machC 233 1 2 3 m))), (2, some (.ob [1] (PackR (abortH1 m pool 0 (fun _ => 0) (fun _ => -1) (fun _ => 0) (fun _ => 0) (fun _ => 0) (fun _ => 0)) 5)))] 4 [.l (.p 0 0 0 0)] fun x h' kk => x = sInt .i64 (m : Int) ∧ kk = 4 ∧
      h' = [(0, some (.st (machC 233 1 2 3 m))), (2, some (.ob [1] (PackR (abortH1 m pool 0 (fun _ => 0) (fun _ => -1) (fun _ => 0) (fun _ => 0) (fun _ => 0) (fun _ => 0)) 5)))] := by
  have hsl := seatLen_spec m (fun _ => 0) (fun _ => -1) true false
  refine spec_of_ev Tryz.func19 ic19_eq (rs := [.t 2]) (by kernel_rfl) (by kernel_rfl) (by kernel_rfl) fun G hP hA => ?_
  unfold evF ic19
  conv => whnf
  refine invP_ghost (open_at 2 rfl (by decide) rfl rfl rfl) ?_
  refine inv_promc hP invLen_abort rfl rfl ?_
  conv => whnf
  (refine call_auto hP (hsl) ?_; conv => whnf); (refine ⟨⟨rfl, rfl, rfl, has_a, rfl, rfl⟩, ?_⟩; conv => whnf)
  (refine fin_close (H := (abortH1 m pool 0 (fun _ => 0) (fun _ => -1) (fun _ => 0) (fun _ => 0) (fun _ => 0) (fun _ => 0))) (np := 5) 2 1 (Nat.le_of_ble_eq_true rfl) ?_; conv => whnf); (refine ⟨⟨rfl, by omega, rfl, rfl, has_a, rfl⟩, ?_⟩)
  (refine fin_auto ?_; conv => whnf); exact ⟨rfl, rfl, rfl, rfl, has_a, rfl⟩
end Go.Proofs.YtlkfolopbehikaaGreat
set_option linter.unusedSimpArgs false
set_option linter.unusedVariables false
namespace Go.Proofs.YtlkfolopbehikaaGreat
open Go Go.Sx

set_option maxRecDepth 8000 in
theorem machNew6_spec (m : Nat) (h : Nat → Int) (start : Nat) (slots pool budget glob loc : Int) (h2 : 1 ≤ m ∧ m ≤ 64) (hb : anyZ badH h m = false)  :
    FSpec Tryz.prog 16 [(0, some (.ro 1 m (numE h)))] 1 [confA 6 0 m start slots pool budget glob loc] fun x h' kk => x = .t [.l (.p 3 0 0 0), .l (.v (.int .i64 0))] ∧ kk = 5 ∧
      h' = [(1, some (.ob [2] (PackR (hierH1 m 0 (fun _ => 0) (fun _ => -1) h (fun i => i + 1) (fun _ => 0) (fun _ => 0) (fun _ => 0) (fun _ => 0)) 4))), (2, some (portP m (10 + m) (cutF (hierWs (fun _ => 0) 0 m) (10 + m)) (hierHs (fun _ => 0) 0 h m) (fun _ => 0) (fun _ => 0) (fun _ => 0) fun _ => 0)), (3, some (.st (machC 236 2 1 4 m))), (4, some (.ar 1 m (numE fun _ => 0)))] := by
  have hbn := buildNew6_ok h m start slots pool budget glob loc h2 hb
  have hsl := seatLen_spec m (fun _ => 0) (fun _ => -1) false false
  refine spec_of_ev Tryz.func16 ic16_eq (rs := [.t 2, .t 3]) (by kernel_rfl) (by kernel_rfl) (by kernel_rfl) fun G hP hA => ?_
  unfold evF ic16
  conv => whnf
  (refine call_auto hP (hbn) ?_; conv => whnf); (refine ⟨⟨rfl, rfl, rfl, has_a, rfl, rfl⟩, ?_⟩; conv => whnf)
  refine invP_ghost (open_at 2 rfl (by decide) rfl rfl rfl) ?_
  refine inv_promc hP invLen_hier rfl rfl ?_
  conv => whnf
  (refine call_auto hP (hsl) ?_; conv => whnf); (refine ⟨⟨rfl, rfl, rfl, has_a, rfl, rfl⟩, ?_⟩; conv => whnf)
  (repeat' (first | (refine And.intro (by (first | omega | assumption | (simp only [nadd_eq]; omega) | (simp [nadd_eq]; omega))) ?_; conv => whnf) | (refine arI64 (by omega) (by omega) ?_; conv => whnf) | (refine arU32 (by omega) (by omega) ?_; conv => whnf) | (refine arU8 (by omega) (by omega) ?_; conv => whnf)))
  (refine fin_close (H := (hierH1 m 0 (fun _ => 0) (fun _ => -1) h (fun i => i + 1) (fun _ => 0) (fun _ => 0) (fun _ => 0) (fun _ => 0))) (np := 4) 2 1 (Nat.le_of_ble_eq_true rfl) ?_; conv => whnf); (refine ⟨⟨rfl, by omega, rfl, rfl, has_a, rfl⟩, ?_⟩)
  (refine fin_auto ?_; conv => whnf); exact ⟨rfl, rfl, rfl, rfl, has_a, rfl⟩
set_option maxRecDepth 8000 in
theorem machLen6_spec (m : Nat) (h : Nat → Int) (start : Nat) (slots pool budget glob loc : Int) :
    FSpec Tryz.prog 19 [(0, some (.st (machC 236 1 2 3 m))), (2, some (.ob [1] (PackR (hierH1 m 0 (fun _ => 0) (fun _ => -1) h (fun i => i + 1) (fun _ => 0) (fun _ => 0) (fun _ => 0) (fun _ => 0)) 4)))] 4 [.l (.p 0 0 0 0)] fun x h' kk => x = sInt .i64 (m : Int) ∧ kk = 4 ∧
      h' = [(0, some (.st (machC 236 1 2 3 m))), (2, some (.ob [1] (PackR (hierH1 m 0 (fun _ => 0) (fun _ => -1) h (fun i => i + 1) (fun _ => 0) (fun _ => 0) (fun _ => 0) (fun _ => 0)) 4)))] := by
  have hsl := seatLen_spec m (fun _ => 0) (fun _ => -1) false false
  refine spec_of_ev Tryz.func19 ic19_eq (rs := [.t 2]) (by kernel_rfl) (by kernel_rfl) (by kernel_rfl) fun G hP hA => ?_
  unfold evF ic19
  conv => whnf
  refine invP_ghost (open_at 2 rfl (by decide) rfl rfl rfl) ?_
  refine inv_promc hP invLen_hier rfl rfl ?_
  conv => whnf
  (refine call_auto hP (hsl) ?_; conv => whnf); (refine ⟨⟨rfl, rfl, rfl, has_a, rfl, rfl⟩, ?_⟩; conv => whnf)
  (refine fin_close (H := (hierH1 m 0 (fun _ => 0) (fun _ => -1) h (fun i => i + 1) (fun _ => 0) (fun _ => 0) (fun _ => 0) (fun _ => 0))) (np := 4) 2 1 (Nat.le_of_ble_eq_true rfl) ?_; conv => whnf); (refine ⟨⟨rfl, by omega, rfl, rfl, has_a, rfl⟩, ?_⟩)
  (refine fin_auto ?_; conv => whnf); exact ⟨rfl, rfl, rfl, rfl, has_a, rfl⟩
end Go.Proofs.YtlkfolopbehikaaGreat
set_option linter.unusedSimpArgs false
set_option linter.unusedVariables false
namespace Go.Proofs.YtlkfolopbehikaaGreat
open Go Go.Sx

set_option maxRecDepth 8000 in
theorem machNew7_spec (m : Nat) (h : Nat → Int) (start : Nat) (slots pool budget : Int) (glob loc : Nat) (h2 : 1 ≤ m ∧ m ≤ 64) (hb : anyZ badH h m = false) (hg : glob = 1 ∨ glob = 4) (hl : isIn loc) (hbu : 1 ≤ budget ∧ budget ≤ 1000) :
    FSpec Tryz.prog 16 [(0, some (.ro 1 m (numE h)))] 1 [confA 7 0 m start slots pool budget glob loc] fun x h' kk => x = .t [.l (.p 3 0 0 0), .l (.v (.int .i64 0))] ∧ kk = 5 ∧
      h' = [(1, some (.ob [2] (PackR (cohH1 m 0 glob loc budget (cnt h m) (p0F 0 glob (fun _ => 0) (fun _ => 0)) (placeI h m)) 13))), (2, some (portP m (cohN m glob loc h) (cutF (cohWs m glob loc h) (cohN m glob loc h)) (cohHs m glob loc h) (fun _ => 0) (fun _ => 0) (fun _ => 0) fun _ => 0)), (3, some (.st (machC 239 2 1 4 m))), (4, some (.ar 1 m (numE fun _ => 0)))] := by
  have hbn := buildNew7_ok h m glob loc start slots pool budget h2 hb hg hl hbu
  have hsl := seatLen_spec m (fun _ => 0) (fun _ => -1) false false
  refine spec_of_ev Tryz.func16 ic16_eq (rs := [.t 2, .t 3]) (by kernel_rfl) (by kernel_rfl) (by kernel_rfl) fun G hP hA => ?_
  unfold evF ic16
  conv => whnf
  (refine call_auto hP (hbn) ?_; conv => whnf); (refine ⟨⟨rfl, rfl, rfl, has_a, rfl, rfl⟩, ?_⟩; conv => whnf)
  refine invP_ghost (open_at 2 rfl (by decide) rfl rfl rfl) ?_
  refine inv_promc hP invLen_cohort rfl rfl ?_
  conv => whnf
  (refine call_auto hP (hsl) ?_; conv => whnf); (refine ⟨⟨rfl, rfl, rfl, has_a, rfl, rfl⟩, ?_⟩; conv => whnf)
  (repeat' (first | (refine And.intro (by (first | omega | assumption | (simp only [nadd_eq]; omega) | (simp [nadd_eq]; omega))) ?_; conv => whnf) | (refine arI64 (by omega) (by omega) ?_; conv => whnf) | (refine arU32 (by omega) (by omega) ?_; conv => whnf) | (refine arU8 (by omega) (by omega) ?_; conv => whnf)))
  refine finP_ghost (close_at [2, 3, 4, 5, 6, 7, 8, 9, 10, 11, 12, 13, 14] (H := (cohH1 m 0 glob loc budget (cnt h m) (p0F 0 glob (fun _ => 0) (fun _ => 0)) (placeI h m))) (np := 13) 1 rfl (by decide) rfl rfl ?_ rfl) (Nat.le_of_ble_eq_true rfl) ?_
  · exact has_a
  conv => whnf
  (refine fin_auto ?_; conv => whnf); exact ⟨rfl, rfl, rfl, rfl, has_a, rfl⟩
set_option maxRecDepth 8000 in
theorem machLen7_spec (m : Nat) (h : Nat → Int) (start : Nat) (slots pool budget : Int) (glob loc : Nat) :
    FSpec Tryz.prog 19 [(0, some (.st (machC 239 1 2 3 m))), (2, some (.ob [1] (PackR (cohH1 m 0 glob loc budget (cnt h m) (p0F 0 glob (fun _ => 0) (fun _ => 0)) (placeI h m)) 13)))] 4 [.l (.p 0 0 0 0)] fun x h' kk => x = sInt .i64 (m : Int) ∧ kk = 4 ∧
      h' = [(0, some (.st (machC 239 1 2 3 m))), (2, some (.ob [1] (PackR (cohH1 m 0 glob loc budget (cnt h m) (p0F 0 glob (fun _ => 0) (fun _ => 0)) (placeI h m)) 13)))] := by
  have hsl := seatLen_spec m (fun _ => 0) (fun _ => -1) false false
  refine spec_of_ev Tryz.func19 ic19_eq (rs := [.t 2]) (by kernel_rfl) (by kernel_rfl) (by kernel_rfl) fun G hP hA => ?_
  unfold evF ic19
  conv => whnf
  refine invP_ghost (open_at 2 rfl (by decide) rfl rfl rfl) ?_
  refine inv_promc hP invLen_cohort rfl rfl ?_
  conv => whnf
  (refine call_auto hP (hsl) ?_; conv => whnf); (refine ⟨⟨rfl, rfl, rfl, has_a, rfl, rfl⟩, ?_⟩; conv => whnf)
  refine finP_ghost (close_at [2, 1, 4, 5, 6, 7, 8, 9, 10, 11, 12, 13, 14] (H := (cohH1 m 0 glob loc budget (cnt h m) (p0F 0 glob (fun _ => 0) (fun _ => 0)) (placeI h m))) (np := 13) 1 rfl (by decide) rfl rfl ?_ rfl) (Nat.le_of_ble_eq_true rfl) ?_
  · exact has_a
  conv => whnf
  (refine fin_auto ?_; conv => whnf); exact ⟨rfl, rfl, rfl, rfl, has_a, rfl⟩
end Go.Proofs.YtlkfolopbehikaaGreat
set_option linter.unusedSimpArgs false
set_option linter.unusedVariables false
namespace Go.Proofs.YtlkfolopbehikaaGreat
open Go Go.Sx

theorem machNew_err (kind : Int) (m : Nat) (h : Nat → Int) (start slots pool budget glob loc : Int) (hm : m ≤ 80) (hc : checkZ kind m h slots pool budget glob loc ≠ 0) :
    FSpec Tryz.prog 16 [(0, some (.ro 1 m (numE h)))] 1 [confA kind 0 m start slots pool budget glob loc] fun x h' k =>
      x = .t [.l (.v (.pointer none)), .l (.v (.int .i64 (checkZ kind m h slots pool budget glob loc)))] ∧ k = 1 ∧ h' = [] := by
  have hbn := buildNew_err kind m h start slots pool budget glob loc hm hc
  refine spec_of_ev Tryz.func16 ic16_eq (rs := [.t 2, .t 3]) (by kernel_rfl) (by kernel_rfl) (by kernel_rfl) fun G hP hA => ?_
  unfold evF ic16
  conv => whnf
  (refine call_auto hP (hbn) ?_; conv => whnf); (refine ⟨⟨rfl, rfl, rfl, has_a, rfl, rfl⟩, ?_⟩; conv => whnf)
  refine dsplit (fun _ => ?_) (fun h1 => absurd (show checkZ kind m h slots pool budget glob loc ≠ 0 from hc) h1)
  conv => whnf
  (refine fin_auto ?_; conv => whnf); exact ⟨rfl, rfl, rfl, rfl, has_a, rfl⟩
end Go.Proofs.YtlkfolopbehikaaGreat
set_option linter.unusedSimpArgs false
set_option linter.unusedVariables false
namespace Go.Proofs.YtlkfolopbehikaaGreat
open Go Go.Sx

/-- A machine's own cells: i entries under the name tr. -/
def machT (ty p l tr s m i : Nat) (now idle : Int) : List LV := [.p p 0 0 0, .i ty l, .s tr 4 0 i 0, .v (.int .i64 now), .v (.int .i64 idle), .s s 1 0 m 0]
def rowT (kind t now : Int) (lead : Bool) : List Value := [.int .i64 kind, .int .i64 t, .int .i64 now, .bool lead]
def snocR (rows : Nat → List Value) (i : Nat) (r : List Value) : Nat → List Value := fun j => if j < i then rows j else r
theorem enter_spec (ty m i : Nat) (now idle kind t : Int) (rows : Nat → List Value) (hi : i ≤ 1000) :
    FSpec Tryz.prog 97 [(0, some (.st (machT ty 1 2 3 4 m i now idle))), (3, some (.ar 4 i rows))] 5 [.l (.p 0 0 0 0), .l (.v (.int .i64 kind)), .l (.v (.int .i64 t))] fun x h k =>
      x = .t [] ∧ k = 6 ∧ h = [(0, some (.st (machT ty 1 2 5 4 m (i + 1) now idle))), (5, some (.ar 4 (i + 1) (snocR rows i (rowT kind t now false))))] := by
  refine spec_of_ev Tryz.func97 ic97_eq (rs := []) (by kernel_rfl) (by kernel_rfl) (by kernel_rfl) fun G hP hA => ?_
  unfold evF ic97
  conv => whnf
  (refine drawP_intro (by rw [hP]; exact follows) (by kernel_rfl) ?_; conv => whnf)
  (repeat' (first | (refine And.intro (by (first | omega | assumption | (simp only [nadd_eq]; omega) | (simp [nadd_eq]; omega))) ?_; conv => whnf) | (refine arI64 (by omega) (by omega) ?_; conv => whnf) | (refine arU32 (by omega) (by omega) ?_; conv => whnf) | (refine arU8 (by omega) (by omega) ?_; conv => whnf)))
  (repeat (refine And.intro (by (conv => whnf); first | exact ⟨rfl, rfl, rfl⟩ | (refine And.intro (by (first | omega | assumption | (simp only [nadd_eq]; omega) | (simp [nadd_eq]; omega))) ?_; (conv => whnf); exact ⟨rfl, rfl, rfl⟩)) ?_; conv => whnf))
  (refine fin_auto ?_; conv => whnf); refine ⟨rfl, rfl, rfl, ?_, ?_, rfl⟩
  · rfl
  · refine ⟨rfl, ⟨rfl, rfl, fun j hj => ?_⟩, trivial⟩
    by_cases h : j < i
    · simp only [snocR, if_pos h]
    · have e : j - i = 0 := by omega
      simp only [snocR, if_neg h, e]
      rfl
end Go.Proofs.YtlkfolopbehikaaGreat
set_option linter.unusedSimpArgs false
set_option linter.unusedVariables false
namespace Go.Proofs.YtlkfolopbehikaaGreat
open Go Go.Sx

theorem invLock_flat (a : Addr) (args : Array Value) (w : World) (v : Value) (h : w.cell? (a.add 0) = some v) : (callMethod (.iface 221 (.pointer (some a))) "Lock" args).run Tryz.prog w = .ok (.enter 210 (#[v] ++ args)) w := by
  have e : (callMethod (.iface 221 (.pointer (some a))) "Lock" args).run Tryz.prog w = (match w.cell? (a.add 0) with
      | some v => .ok (.enter 210 (#[v] ++ args)) w
      | none => match w.farLoad Tryz.prog (a.add 0) false with
        | .ok (v, _) => .ok (.enter 210 (#[v] ++ args)) w
        | .error h => .halt h w) := by kernel_rfl
  rw [e, h]
theorem invState_flat (a : Addr) (args : Array Value) (w : World) (v : Value) (h : w.cell? (a.add 0) = some v) : (callMethod (.iface 221 (.pointer (some a))) "State" args).run Tryz.prog w = .ok (.enter 212 (#[v] ++ args)) w := by
  have e : (callMethod (.iface 221 (.pointer (some a))) "State" args).run Tryz.prog w = (match w.cell? (a.add 0) with
      | some v => .ok (.enter 212 (#[v] ++ args)) w
      | none => match w.farLoad Tryz.prog (a.add 0) false with
        | .ok (v, _) => .ok (.enter 212 (#[v] ++ args)) w
        | .error h => .halt h w) := by kernel_rfl
  rw [e, h]
theorem invStep_flat (v : Value) (args : Array Value) (w : World) : (callMethod (.iface 221 v) "Step" args).run Tryz.prog w = .ok (.enter 213 (#[v] ++ args)) w := by kernel_rfl
theorem invD_own {P : Program} {G : Ctx} {t : TypeId} {name : String} {fid : FuncId} {k : Nat} {xs : List AV} {h : Heap} {n : Nat} {K : SV → Heap → Nat → Prop} (hP : G.P = P)
    (hm : ∀ (v : Value) (args : Array Value) (w : World), (callMethod (.iface t v) name args).run P w = .ok (.enter fid (#[v] ++ args)) w)
    (hcall : CallD G fid (.l (.p k 0 0 0) :: xs) h n K) : InvD G (.l (.i t k)) name xs h n K := by
  obtain ⟨x, u, n', h1, h2⟩ := hcall
  exact ⟨x, u, n', inv_own hP hm h1, h2⟩
/-- A machine with a flat lock, open: its entries (name tr), its steps (name 4), its lock's seats, numbers, and who drew (5, 6, 7). -/
def flatM (tr n nx ow i : Nat) (now idle : Int) (st dl nu sp : Nat → Int) (dr : Nat → Bool) (rows : Nat → List Value) (X : Ent) : Heap :=
  [(0, some (.st (machT 221 1 2 tr 4 n i now idle))), (1, some X), (2, some (.st [.p 5 0 0 0, .p 1 0 0 0, .v (.int .i64 nx), .v (.int .i64 ow), .s 6 1 0 n 0, .s 7 1 0 n 0])), (tr, some (.ar 4 i rows)), (4, some (.ar 1 n (numE sp))),
    (5, some (seatP n st dl false true)), (6, some (.ar 1 n (wordE nu))), (7, some (.ar 1 n (boolE dr)))]
set_option maxRecDepth 8000 in
theorem callF_spec (n nx ow i t : Nat) (now idle : Int) (st dl nu sp : Nat → Int) (dr : Nat → Bool) (rows : Nat → List Value) (L : List Go.Sx.Loc → Go.Sx.Loc → List Nat → World → Prop) (ht : t < n) (hn : n ≤ 64) (hi : i ≤ 1000) (hs : st t = 0) :
    FSpec Tryz.prog 96 (flatM 3 n nx ow i now idle st dl nu sp dr rows (.ob [] L)) 8 [.l (.p 0 0 0 0), .l (.v (.int .i64 t)), .l (.v (.int .i64 (-1)))] fun x h k =>
      x = sBool true ∧ k = 9 ∧ h = flatM 8 n nx ow (i + 1) now idle (updF st t 1) (updF dl t (-1)) nu sp dr (snocR rows i (rowT 1 t now false)) (.ob [] L) := by
  have hlk := seatLock_ok n st dl false true t ht hn hs
  have hen := enter_spec 221 n i now idle 1 t rows hi
  refine spec_of_ev Tryz.func96 ic96_eq (rs := [.t 6]) (by kernel_rfl) (by kernel_rfl) (by kernel_rfl) fun G hP hA => ?_
  unfold evF ic96
  conv => whnf
  (refine join_plain ?_; conv => whnf)
  conv => whnf
  refine inv_promc hP invLock_flat rfl rfl ?_
  conv => whnf
  (refine call_auto hP (hlk) ?_; conv => whnf); (refine ⟨⟨rfl, rfl, rfl, has_a, rfl, rfl⟩, ?_⟩; conv => whnf)
  (refine call_auto hP (hen) ?_; conv => whnf); (refine ⟨⟨rfl, rfl, rfl, has_a, rfl, rfl⟩, ?_⟩; conv => whnf)
  (refine fin_auto ?_; conv => whnf); exact ⟨rfl, rfl, rfl, rfl, has_a, rfl⟩
set_option maxRecDepth 8000 in
theorem stepF_enq (n nw nx ow i t : Nat) (now idle : Int) (st dl nu sp ws hs cp ms ac wr : Nat → Int) (dr : Nat → Bool) (rows : Nat → List Value) (ht : t < n) (hn : n ≤ 64) (hi : i ≤ 1000) (hnw : nw ≤ 4096) (hnx : nx < nw) (hs1 : st t = 1) (hd : dr t = false) :
    FSpec Tryz.prog 94 (flatM 3 n nx ow i now idle st dl nu sp dr rows (portP n nw ws hs cp ms ac wr)) 8 [.l (.p 0 0 0 0), .l (.v (.int .i64 t))] fun x h k =>
      x = sBool true ∧ k = 9 ∧ h = flatM 8 n nx ow (i + 1) now idle st dl (updF nu t (addW (addW (ws nx) 1) (-1))) (updF sp t (incZ (sp t))) (fun j => if j = t then true else dr j) (snocR rows i (rowT 2 t now false)) (portW n nw (updF ws nx (addW (ws nx) 1)) hs cp ms ac wr t nx) := by
  have hst := seatState_spec n st dl false true t ht hn
  rw [hs1] at hst
  have hsp := flatStep_enq n nw nx ow t now st dl nu ws hs cp ms ac wr dr ht hn hnw hnx hs1 hd
  have hen := enter_spec 221 n i now idle 2 t rows hi
  have hnt' : nadd 0 ((t : Int)).toNat = t := by simp [nadd_eq]
  refine spec_of_ev Tryz.func94 ic94_eq (rs := [.t 4]) (by kernel_rfl) (by kernel_rfl) (by kernel_rfl) fun G hP hA => ?_
  unfold evF ic94
  conv => whnf
  refine inv_promc hP invState_flat rfl rfl ?_
  conv => whnf
  (refine call_auto hP (hst) ?_; conv => whnf); (refine ⟨⟨rfl, rfl, rfl, has_a, rfl, rfl⟩, ?_⟩; conv => whnf)
  (repeat' (first | (refine And.intro (by (first | omega | assumption | (simp only [nadd_eq]; omega) | (simp [nadd_eq]; omega))) ?_; conv => whnf) | (refine arI64 (by omega) (by omega) ?_; conv => whnf) | (refine arU32 (by omega) (by omega) ?_; conv => whnf) | (refine arU8 (by omega) (by omega) ?_; conv => whnf)))
  refine arW ?_
  conv => whnf
  (repeat' (first | (refine And.intro (by (first | omega | assumption | (simp only [nadd_eq]; omega) | (simp [nadd_eq]; omega))) ?_; conv => whnf) | (refine arI64 (by omega) (by omega) ?_; conv => whnf) | (refine arU32 (by omega) (by omega) ?_; conv => whnf) | (refine arU8 (by omega) (by omega) ?_; conv => whnf)))
  (refine drawP_intro (by rw [hP]; exact follows) (by kernel_rfl) ?_; conv => whnf)
  refine invD_own hP invStep_flat ?_
  (refine callD_auto hP (hsp) ?_; conv => whnf); (refine ⟨⟨rfl, rfl, rfl, has_a, rfl, rfl⟩, ?_⟩; conv => whnf)
  (repeat (refine And.intro (by (conv => whnf); first | exact ⟨rfl, rfl, rfl⟩ | (refine And.intro (by (first | omega | assumption | (simp only [nadd_eq]; omega) | (simp [nadd_eq]; omega))) ?_; (conv => whnf); exact ⟨rfl, rfl, rfl⟩)) ?_; conv => whnf))
  (refine join_plain ?_; conv => whnf)
  conv => whnf
  (refine call_auto hP (hen) ?_; conv => whnf); (refine ⟨⟨rfl, rfl, rfl, has_a, rfl, rfl⟩, ?_⟩; conv => whnf)
  (refine join_plain ?_; conv => whnf)
  conv => whnf
  (refine join_plain ?_; conv => whnf)
  conv => whnf
  rw [hnt']
  (refine fin_auto ?_; conv => whnf); refine ⟨rfl, rfl, rfl, ?_, ?_, rfl⟩
  · rfl
  · exact ⟨rfl, has_a, rfl, ⟨rfl, rfl, fun j hj => rfl⟩, ⟨rfl, rfl, fun j hj => updM sp t _ j⟩, has_a, ⟨rfl, rfl, fun j hj => rfl⟩, ⟨rfl, rfl, fun j hj => rfl⟩, trivial⟩
theorem updL (rows : Nat → List Value) (i : Nat) (a b c : Int) (j : Nat) : mrgL (j = i) (setMany (snocR rows i (rowT a b c false) j) 3 [.bool false]) (snocR rows i (rowT a b c false) j) = snocR rows i (rowT a b c false) j := by
  rw [mrgL_eq _ _ _ (by rw [setMany_length])]
  by_cases h : j = i
  · subst h
    simp [snocR, rowT, setMany, setL]
  · rw [if_neg h]
set_option maxRecDepth 8000 in
theorem stepF_got (n nw nx ow i t : Nat) (now idle : Int) (st dl nu sp ws hs cp ms ac wr : Nat → Int) (dr : Nat → Bool) (rows : Nat → List Value) (ht : t < n) (hn : n ≤ 64) (hi : i ≤ 1000) (hnw : nw ≤ 4096) (hnx : ow < nw) (hs1 : st t = 1) (hd : dr t = true) (hw : ws ow = nu t) :
    FSpec Tryz.prog 94 (flatM 3 n nx ow i now idle st dl nu sp dr rows (portP n nw ws hs cp ms ac wr)) 8 [.l (.p 0 0 0 0), .l (.v (.int .i64 t))] fun x h k =>
      x = sBool true ∧ k = 9 ∧ h = flatM 8 n nx ow (i + 1) now idle (updF st t 2) (updF dl t (-1)) nu (updF sp t (incZ (sp t))) dr (snocR rows i (rowT 4 t now false)) (portR n nw ws hs cp ms ac wr t ow) := by
  have hst := seatState_spec n st dl false true t ht hn
  rw [hs1] at hst
  have hsp := flatStep_got n nw nx ow t now st dl nu ws hs cp ms ac wr dr ht hn hnw hnx hs1 hd hw
  have hen := enter_spec 221 n i now idle 4 t rows hi
  have hnt' : nadd 0 ((t : Int)).toNat = t := by simp [nadd_eq]
  refine spec_of_ev Tryz.func94 ic94_eq (rs := [.t 4]) (by kernel_rfl) (by kernel_rfl) (by kernel_rfl) fun G hP hA => ?_
  unfold evF ic94
  conv => whnf
  refine inv_promc hP invState_flat rfl rfl ?_
  conv => whnf
  (refine call_auto hP (hst) ?_; conv => whnf); (refine ⟨⟨rfl, rfl, rfl, has_a, rfl, rfl⟩, ?_⟩; conv => whnf)
  (repeat' (first | (refine And.intro (by (first | omega | assumption | (simp only [nadd_eq]; omega) | (simp [nadd_eq]; omega))) ?_; conv => whnf) | (refine arI64 (by omega) (by omega) ?_; conv => whnf) | (refine arU32 (by omega) (by omega) ?_; conv => whnf) | (refine arU8 (by omega) (by omega) ?_; conv => whnf)))
  refine arW ?_
  conv => whnf
  (repeat' (first | (refine And.intro (by (first | omega | assumption | (simp only [nadd_eq]; omega) | (simp [nadd_eq]; omega))) ?_; conv => whnf) | (refine arI64 (by omega) (by omega) ?_; conv => whnf) | (refine arU32 (by omega) (by omega) ?_; conv => whnf) | (refine arU8 (by omega) (by omega) ?_; conv => whnf)))
  (refine drawP_intro (by rw [hP]; exact follows) (by kernel_rfl) ?_; conv => whnf)
  refine invD_own hP invStep_flat ?_
  (refine callD_auto hP (hsp) ?_; conv => whnf); (refine ⟨⟨rfl, rfl, rfl, has_a, rfl, rfl⟩, ?_⟩; conv => whnf)
  (repeat (refine And.intro (by (conv => whnf); first | exact ⟨rfl, rfl, rfl⟩ | (refine And.intro (by (first | omega | assumption | (simp only [nadd_eq]; omega) | (simp [nadd_eq]; omega))) ?_; (conv => whnf); exact ⟨rfl, rfl, rfl⟩)) ?_; conv => whnf))
  (refine join_plain ?_; conv => whnf)
  conv => whnf
  (refine join_plain ?_; conv => whnf)
  conv => whnf
  (refine join_plain ?_; conv => whnf)
  conv => whnf
  (refine call_auto hP (hen) ?_; conv => whnf); (refine ⟨⟨rfl, rfl, rfl, has_a, rfl, rfl⟩, ?_⟩; conv => whnf)
  (refine drawP_intro (by rw [hP]; exact follows) (by kernel_rfl) ?_; conv => whnf)
  (repeat' (first | (refine And.intro (by (first | omega | assumption | (simp only [nadd_eq]; omega) | (simp [nadd_eq]; omega))) ?_; conv => whnf) | (refine arI64 (by omega) (by omega) ?_; conv => whnf) | (refine arU32 (by omega) (by omega) ?_; conv => whnf) | (refine arU8 (by omega) (by omega) ?_; conv => whnf)))
  (repeat (refine And.intro (by (conv => whnf); first | exact ⟨rfl, rfl, rfl⟩ | (refine And.intro (by (first | omega | assumption | (simp only [nadd_eq]; omega) | (simp [nadd_eq]; omega))) ?_; (conv => whnf); exact ⟨rfl, rfl, rfl⟩)) ?_; conv => whnf))
  have hni : nadd 0 (((i + 1 : Nat) : Int) - 1).toNat = i := by simp [nadd_eq]
  rw [hnt', hni]
  (refine fin_auto ?_; conv => whnf); refine ⟨rfl, rfl, rfl, ?_, ?_, rfl⟩
  · rfl
  · exact ⟨rfl, has_a, rfl, ⟨rfl, rfl, fun j hj => updL rows i 4 t now j⟩, ⟨rfl, rfl, fun j hj => updM sp t _ j⟩, has_a, ⟨rfl, rfl, fun j hj => rfl⟩, ⟨rfl, rfl, fun j hj => rfl⟩, trivial⟩
end Go.Proofs.YtlkfolopbehikaaGreat
set_option linter.unusedSimpArgs false
set_option linter.unusedVariables false
namespace Go.Proofs.YtlkfolopbehikaaGreat
open Go Go.Sx

def evV (kind t w : Int) : AV := .a [.v (.int .i64 kind), .v (.int .i64 t), .v (.int .i64 w)]
set_option maxRecDepth 8000 in
theorem doF0_call (n nx ow i t : Nat) (now idle : Int) (st dl nu sp : Nat → Int) (dr : Nat → Bool) (rows : Nat → List Value) (L : List Go.Sx.Loc → Go.Sx.Loc → List Nat → World → Prop) (ht : t < n) (hn : n ≤ 64) (hi : i ≤ 1000) (hs : st t = 0) :
    FSpec Tryz.prog 56 (flatM 3 n nx ow i now idle st dl nu sp dr rows (.ob [] L)) 8 [.l (.p 0 0 0 0), evV 3 t (-1)] fun x h k => x = sBool true ∧ k = 9 ∧ h = flatM 8 n nx ow (i + 1) now idle (updF st t 1) (updF dl t (-1)) nu sp dr (snocR rows i (rowT 1 t now false)) (.ob [] L) := by
  have hc := callF_spec n nx ow i t now idle st dl nu sp dr rows L ht hn hi hs
  refine spec_of_ev Tryz.func56 ic56_eq (rs := [.t 4]) (by kernel_rfl) (by kernel_rfl) (by kernel_rfl) fun G hP hA => ?_
  unfold evF ic56
  conv => whnf
  (refine call_auto hP (hc) ?_; conv => whnf); (refine ⟨⟨rfl, rfl, rfl, has_a, rfl, rfl⟩, ?_⟩; conv => whnf)
  (refine fin_auto ?_; conv => whnf); exact ⟨rfl, rfl, rfl, rfl, has_a, rfl⟩
set_option maxRecDepth 8000 in
theorem doF_call (n nx ow i t : Nat) (now idle : Int) (st dl nu sp : Nat → Int) (dr : Nat → Bool) (rows : Nat → List Value) (L : List Go.Sx.Loc → Go.Sx.Loc → List Nat → World → Prop) (ht : t < n) (hn : n ≤ 64) (hi : i ≤ 1000) (hs : st t = 0) :
    FSpec Tryz.prog 24 (flatM 3 n nx ow i now idle st dl nu sp dr rows (.ob [] L)) 8 [.l (.p 0 0 0 0), evV 3 t (-1)] fun x h k => x = sBool true ∧ k = 9 ∧ h = flatM 8 n nx ow (i + 1) now idle (updF st t 1) (updF dl t (-1)) nu sp dr (snocR rows i (rowT 1 t now false)) (.ob [] L) := by
  have hc := doF0_call n nx ow i t now idle st dl nu sp dr rows L ht hn hi hs
  refine spec_of_ev Tryz.func24 ic24_eq (rs := [.t 4]) (by kernel_rfl) (by kernel_rfl) (by kernel_rfl) fun G hP hA => ?_
  unfold evF ic24
  conv => whnf
  (refine call_auto hP (hc) ?_; conv => whnf); (refine ⟨⟨rfl, rfl, rfl, has_a, rfl, rfl⟩, ?_⟩; conv => whnf)
  (refine join_plain ?_; conv => whnf)
  conv => whnf
  (refine fin_auto ?_; conv => whnf); exact ⟨rfl, rfl, rfl, rfl, has_a, rfl⟩
set_option maxRecDepth 8000 in
theorem doF0_enq (n nw nx ow i t : Nat) (now idle : Int) (st dl nu sp ws hs cp ms ac wr : Nat → Int) (dr : Nat → Bool) (rows : Nat → List Value) (ht : t < n) (hn : n ≤ 64) (hi : i ≤ 1000) (hnw : nw ≤ 4096) (hnx : nx < nw) (hs1 : st t = 1) (hd : dr t = false) (w : Int) :
    FSpec Tryz.prog 56 (flatM 3 n nx ow i now idle st dl nu sp dr rows (portP n nw ws hs cp ms ac wr)) 8 [.l (.p 0 0 0 0), evV 1 t w] fun x h k => x = sBool true ∧ k = 9 ∧ h = flatM 8 n nx ow (i + 1) now idle st dl (updF nu t (addW (addW (ws nx) 1) (-1))) (updF sp t (incZ (sp t))) (fun j => if j = t then true else dr j) (snocR rows i (rowT 2 t now false)) (portW n nw (updF ws nx (addW (ws nx) 1)) hs cp ms ac wr t nx) := by
  have hc := stepF_enq n nw nx ow i t now idle st dl nu sp ws hs cp ms ac wr dr rows ht hn hi hnw hnx hs1 hd
  refine spec_of_ev Tryz.func56 ic56_eq (rs := [.t 4]) (by kernel_rfl) (by kernel_rfl) (by kernel_rfl) fun G hP hA => ?_
  unfold evF ic56
  conv => whnf
  (refine call_auto hP (hc) ?_; conv => whnf); (refine ⟨⟨rfl, rfl, rfl, has_a, rfl, rfl⟩, ?_⟩; conv => whnf)
  (refine fin_auto ?_; conv => whnf); exact ⟨rfl, rfl, rfl, rfl, has_a, rfl⟩
set_option maxRecDepth 8000 in
theorem doF_enq (n nw nx ow i t : Nat) (now idle : Int) (st dl nu sp ws hs cp ms ac wr : Nat → Int) (dr : Nat → Bool) (rows : Nat → List Value) (ht : t < n) (hn : n ≤ 64) (hi : i ≤ 1000) (hnw : nw ≤ 4096) (hnx : nx < nw) (hs1 : st t = 1) (hd : dr t = false) (w : Int) :
    FSpec Tryz.prog 24 (flatM 3 n nx ow i now idle st dl nu sp dr rows (portP n nw ws hs cp ms ac wr)) 8 [.l (.p 0 0 0 0), evV 1 t w] fun x h k => x = sBool true ∧ k = 9 ∧ h = flatM 8 n nx ow (i + 1) now idle st dl (updF nu t (addW (addW (ws nx) 1) (-1))) (updF sp t (incZ (sp t))) (fun j => if j = t then true else dr j) (snocR rows i (rowT 2 t now false)) (portW n nw (updF ws nx (addW (ws nx) 1)) hs cp ms ac wr t nx) := by
  have hc := doF0_enq n nw nx ow i t now idle st dl nu sp ws hs cp ms ac wr dr rows ht hn hi hnw hnx hs1 hd w
  refine spec_of_ev Tryz.func24 ic24_eq (rs := [.t 4]) (by kernel_rfl) (by kernel_rfl) (by kernel_rfl) fun G hP hA => ?_
  unfold evF ic24
  conv => whnf
  (refine call_auto hP (hc) ?_; conv => whnf); (refine ⟨⟨rfl, rfl, rfl, has_a, rfl, rfl⟩, ?_⟩; conv => whnf)
  (refine join_plain ?_; conv => whnf)
  conv => whnf
  (refine fin_auto ?_; conv => whnf); exact ⟨rfl, rfl, rfl, rfl, has_a, rfl⟩
set_option maxRecDepth 8000 in
theorem doF0_got (n nw nx ow i t : Nat) (now idle : Int) (st dl nu sp ws hs cp ms ac wr : Nat → Int) (dr : Nat → Bool) (rows : Nat → List Value) (ht : t < n) (hn : n ≤ 64) (hi : i ≤ 1000) (hnw : nw ≤ 4096) (hnx : ow < nw) (hs1 : st t = 1) (hd : dr t = true) (hw : ws ow = nu t) (w : Int) :
    FSpec Tryz.prog 56 (flatM 3 n nx ow i now idle st dl nu sp dr rows (portP n nw ws hs cp ms ac wr)) 8 [.l (.p 0 0 0 0), evV 1 t w] fun x h k => x = sBool true ∧ k = 9 ∧ h = flatM 8 n nx ow (i + 1) now idle (updF st t 2) (updF dl t (-1)) nu (updF sp t (incZ (sp t))) dr (snocR rows i (rowT 4 t now false)) (portR n nw ws hs cp ms ac wr t ow) := by
  have hc := stepF_got n nw nx ow i t now idle st dl nu sp ws hs cp ms ac wr dr rows ht hn hi hnw hnx hs1 hd hw
  refine spec_of_ev Tryz.func56 ic56_eq (rs := [.t 4]) (by kernel_rfl) (by kernel_rfl) (by kernel_rfl) fun G hP hA => ?_
  unfold evF ic56
  conv => whnf
  (refine call_auto hP (hc) ?_; conv => whnf); (refine ⟨⟨rfl, rfl, rfl, has_a, rfl, rfl⟩, ?_⟩; conv => whnf)
  (refine fin_auto ?_; conv => whnf); exact ⟨rfl, rfl, rfl, rfl, has_a, rfl⟩
set_option maxRecDepth 8000 in
theorem doF_got (n nw nx ow i t : Nat) (now idle : Int) (st dl nu sp ws hs cp ms ac wr : Nat → Int) (dr : Nat → Bool) (rows : Nat → List Value) (ht : t < n) (hn : n ≤ 64) (hi : i ≤ 1000) (hnw : nw ≤ 4096) (hnx : ow < nw) (hs1 : st t = 1) (hd : dr t = true) (hw : ws ow = nu t) (w : Int) :
    FSpec Tryz.prog 24 (flatM 3 n nx ow i now idle st dl nu sp dr rows (portP n nw ws hs cp ms ac wr)) 8 [.l (.p 0 0 0 0), evV 1 t w] fun x h k => x = sBool true ∧ k = 9 ∧ h = flatM 8 n nx ow (i + 1) now idle (updF st t 2) (updF dl t (-1)) nu (updF sp t (incZ (sp t))) dr (snocR rows i (rowT 4 t now false)) (portR n nw ws hs cp ms ac wr t ow) := by
  have hc := doF0_got n nw nx ow i t now idle st dl nu sp ws hs cp ms ac wr dr rows ht hn hi hnw hnx hs1 hd hw w
  refine spec_of_ev Tryz.func24 ic24_eq (rs := [.t 4]) (by kernel_rfl) (by kernel_rfl) (by kernel_rfl) fun G hP hA => ?_
  unfold evF ic24
  conv => whnf
  (refine call_auto hP (hc) ?_; conv => whnf); (refine ⟨⟨rfl, rfl, rfl, has_a, rfl, rfl⟩, ?_⟩; conv => whnf)
  (refine join_plain ?_; conv => whnf)
  conv => whnf
  (refine fin_auto ?_; conv => whnf); exact ⟨rfl, rfl, rfl, rfl, has_a, rfl⟩
end Go.Proofs.YtlkfolopbehikaaGreat
set_option linter.unusedSimpArgs false
set_option linter.unusedVariables false
namespace Go.Proofs.YtlkfolopbehikaaGreat
open Go Go.Sx

def wsA : Nat → Nat → Int := fun i => match i with
  | 0 => cutF (flatWs (fun _ => 0) 0 0) 2
  | 1 => cutF (flatWs (fun _ => 0) 0 0) 2
  | _ => updF (cutF (flatWs (fun _ => 0) 0 0) 2) 0 (addW (cutF (flatWs (fun _ => 0) 0 0) 2 0) 1)
def portA (hs : Nat → Int) : Nat → Ent := fun i => match i with
  | 0 => portP 1 2 (wsA 0) hs (fun _ => 0) (fun _ => 0) (fun _ => 0) (fun _ => 0)
  | 1 => portP 1 2 (wsA 0) hs (fun _ => 0) (fun _ => 0) (fun _ => 0) (fun _ => 0)
  | 2 => portW 1 2 (wsA 2) hs (fun _ => 0) (fun _ => 0) (fun _ => 0) (fun _ => 0) 0 0
  | _ => portR 1 2 (wsA 2) hs (updF (fun _ => 0) 0 (ownB 0)) (msT (missW (fun _ => 0) 0 0) (fun _ => 0) 0) (updF (fun _ => 0) 0 (incZ 0)) (updF (fun _ => 0) 0 (incZ 0)) 0 1
def stA : Nat → Nat → Int := fun i => match i with
  | 0 => fun _ => 0
  | 1 => updF (fun _ => 0) 0 1
  | 2 => updF (fun _ => 0) 0 1
  | _ => updF (updF (fun _ => 0) 0 1) 0 2
def dlA : Nat → Nat → Int := fun i => match i with
  | 0 => fun _ => -1
  | 1 => updF (fun _ => -1) 0 (-1)
  | 2 => updF (fun _ => -1) 0 (-1)
  | _ => updF (updF (fun _ => -1) 0 (-1)) 0 (-1)
def nuA : Nat → Nat → Int := fun i => match i with
  | 0 => fun _ => 0
  | 1 => fun _ => 0
  | _ => updF (fun _ => 0) 0 (addW (addW (wsA 1 0) 1) (-1))
def drA : Nat → Nat → Bool := fun i => match i with
  | 0 => fun _ => false
  | 1 => fun _ => false
  | _ => fun j => if j = 0 then true else (fun _ => false) j
def spA : Nat → Nat → Int := fun i => match i with
  | 0 => fun _ => 0
  | 1 => fun _ => 0
  | 2 => updF (fun _ => 0) 0 (incZ 0)
  | _ => updF (updF (fun _ => 0) 0 (incZ 0)) 0 (incZ (updF (fun _ => 0) 0 (incZ 0) 0))
def rowsA (r0 : Nat → List Value) : Nat → Nat → List Value := fun i => match i with
  | 0 => r0
  | 1 => snocR r0 0 (rowT 1 0 0 false)
  | 2 => snocR (snocR r0 0 (rowT 1 0 0 false)) 1 (rowT 2 0 0 false)
  | _ => snocR (snocR (snocR r0 0 (rowT 1 0 0 false)) 1 (rowT 2 0 0 false)) 2 (rowT 4 0 0 false)
def evE : Nat → List Value := fun i => match i with
  | 0 => [.int .i64 3, .int .i64 0, .int .i64 (-1)]
  | _ => [.int .i64 1, .int .i64 0, .int .i64 0]
def machA (tr i : Nat) (hs : Nat → Int) (r0 : Nat → List Value) : Heap := flatM tr 1 0 1 i 0 0 (stA i) (dlA i) (nuA i) (spA i) (drA i) (rowsA r0 i) (portA hs i)
theorem evA0 (hs : Nat → Int) (r0 : Nat → List Value) : FSpec Tryz.prog 24 (machA 3 0 hs r0) 8 [.l (.p 0 0 0 0), evV 3 (0 : Nat) (-1)] fun x h k => x = sBool true ∧ k = 9 ∧ h = machA 8 1 hs r0 :=
  doF_call 1 0 1 0 0 0 0 (stA 0) (dlA 0) (nuA 0) (spA 0) (drA 0) (rowsA r0 0) _ (by omega) (by omega) (by omega) rfl
theorem evA1 (hs : Nat → Int) (r0 : Nat → List Value) : FSpec Tryz.prog 24 (machA 3 1 hs r0) 8 [.l (.p 0 0 0 0), evV 1 (0 : Nat) 0] fun x h k => x = sBool true ∧ k = 9 ∧ h = machA 8 2 hs r0 :=
  doF_enq 1 2 0 1 1 0 0 0 (stA 1) (dlA 1) (nuA 1) (spA 1) (wsA 1) hs _ _ _ _ (drA 1) (rowsA r0 1) (by omega) (by omega) (by omega) (by omega) (by omega) rfl rfl 0
theorem evA2 (hs : Nat → Int) (r0 : Nat → List Value) : FSpec Tryz.prog 24 (machA 3 2 hs r0) 8 [.l (.p 0 0 0 0), evV 1 (0 : Nat) 0] fun x h k => x = sBool true ∧ k = 9 ∧ h = machA 8 3 hs r0 :=
  doF_got 1 2 0 1 2 0 0 0 (stA 2) (dlA 2) (nuA 2) (spA 2) (wsA 2) hs _ _ _ _ (drA 2) (rowsA r0 2) (by omega) (by omega) (by omega) (by omega) (by omega) rfl rfl rfl 0
end Go.Proofs.YtlkfolopbehikaaGreat
set_option linter.unusedSimpArgs false
set_option linter.unusedVariables false
namespace Go.Proofs.YtlkfolopbehikaaGreat
open Go Go.Sx

set_option maxRecDepth 8000 in
theorem runA_spec (hs : Nat → Int) (r0 : Nat → List Value) : FSpec Tryz.prog 27 (machA 3 0 hs r0 ++ [(8, some (.ro 3 3 evE))]) 9 [.l (.p 0 0 0 0), .l (.s 8 3 0 3 0)] fun x h k => x = sInt .i64 3 ∧ k = 10 ∧ h = machA 9 3 hs r0 := by
  have h0 := evA0 hs r0
  have h1 := evA1 hs r0
  have h2 := evA2 hs r0
  refine spec_of_ev Tryz.func27 ic27_eq (rs := [.t 4]) (by kernel_rfl) (by kernel_rfl) (by kernel_rfl) fun G hP hA => ?_
  unfold evF ic27
  conv => whnf
  refine loop_auto (α := Nat) (ds := []) (N := 10) (fun i => [(10, sInt .i64 (i : Int)), (5, sInt .i64 (i : Int))]) []
    (fun i => (3, none) :: machA 9 i hs r0)
    (fun i => i ≤ 3) (fun i => 3 - i) 0 (Nat.zero_le _) ?_ fun i hi => ?_
  · (conv => whnf); (refine imp_auto hA ?_; conv => whnf); exact ⟨rfl, rfl, rfl, regs_a, has_a, rfl⟩
  · rcases (show i = 0 ∨ i = 1 ∨ i = 2 ∨ i = 3 by omega) with rfl | rfl | rfl | rfl
    · conv => whnf
      (refine join_plain ?_; conv => whnf)
      conv => whnf
      refine And.intro (by decide) ?_
      conv => whnf
      refine And.intro (by decide) ?_
      conv => whnf
      (refine call_auto hP (h0) ?_; conv => whnf); (refine ⟨⟨rfl, rfl, rfl, has_a, rfl, rfl⟩, ?_⟩; conv => whnf)
      (repeat' (first | (refine And.intro (by (first | omega | assumption | (simp only [nadd_eq]; omega) | (simp [nadd_eq]; omega))) ?_; conv => whnf) | (refine arI64 (by omega) (by omega) ?_; conv => whnf) | (refine arU32 (by omega) (by omega) ?_; conv => whnf) | (refine arU8 (by omega) (by omega) ?_; conv => whnf)))
      refine ⟨1, by omega, by omega, ?_⟩
      (conv => whnf); (refine imp_auto hA ?_; conv => whnf); exact ⟨rfl, rfl, rfl, regs_a, has_a, rfl⟩
    · conv => whnf
      (refine join_plain ?_; conv => whnf)
      conv => whnf
      refine And.intro (by decide) ?_
      conv => whnf
      refine And.intro (by decide) ?_
      conv => whnf
      (refine call_auto hP (h1) ?_; conv => whnf); (refine ⟨⟨rfl, rfl, rfl, has_a, rfl, rfl⟩, ?_⟩; conv => whnf)
      (repeat' (first | (refine And.intro (by (first | omega | assumption | (simp only [nadd_eq]; omega) | (simp [nadd_eq]; omega))) ?_; conv => whnf) | (refine arI64 (by omega) (by omega) ?_; conv => whnf) | (refine arU32 (by omega) (by omega) ?_; conv => whnf) | (refine arU8 (by omega) (by omega) ?_; conv => whnf)))
      refine ⟨2, by omega, by omega, ?_⟩
      (conv => whnf); (refine imp_auto hA ?_; conv => whnf); exact ⟨rfl, rfl, rfl, regs_a, has_a, rfl⟩
    · conv => whnf
      (refine join_plain ?_; conv => whnf)
      conv => whnf
      refine And.intro (by decide) ?_
      conv => whnf
      refine And.intro (by decide) ?_
      conv => whnf
      (refine call_auto hP (h2) ?_; conv => whnf); (refine ⟨⟨rfl, rfl, rfl, has_a, rfl, rfl⟩, ?_⟩; conv => whnf)
      (repeat' (first | (refine And.intro (by (first | omega | assumption | (simp only [nadd_eq]; omega) | (simp [nadd_eq]; omega))) ?_; conv => whnf) | (refine arI64 (by omega) (by omega) ?_; conv => whnf) | (refine arU32 (by omega) (by omega) ?_; conv => whnf) | (refine arU8 (by omega) (by omega) ?_; conv => whnf)))
      refine ⟨3, by omega, by omega, ?_⟩
      (conv => whnf); (refine imp_auto hA ?_; conv => whnf); exact ⟨rfl, rfl, rfl, regs_a, has_a, rfl⟩
    · conv => whnf
      (refine fin_auto ?_; conv => whnf); exact ⟨rfl, rfl, rfl, rfl, has_a, rfl⟩
end Go.Proofs.YtlkfolopbehikaaGreat
set_option linter.unusedSimpArgs false
set_option linter.unusedVariables false
namespace Go.Proofs.YtlkfolopbehikaaGreat
open Go Go.Sx

theorem cloneT_spec (f : Nat → List Value) (m : Nat) (hm : m ≤ 1000) (h1 : 1 ≤ m) :
    FSpec Tryz.prog 55 [(0, some (.ro 4 m f))] 1 [.l (.s 0 4 0 m 0)] fun x h n => x = .o (.l (.s 1 4 0 m 0)) ∧ n = 2 ∧ h = [(1, some (.ar 4 m f))] := by
  refine spec_of_ev Tryz.func55 ic55_eq (rs := [.t 2]) (by kernel_rfl) (by kernel_rfl) (by kernel_rfl) fun G hP hA => ?_
  unfold evF ic55
  conv => whnf
  refine esc_isnil (el := 46) (by rw [hP]; kernel_rfl) rfl fun b hb => ?_
  conv => whnf
  refine bsplit (fun h => ?_) (fun h => ?_)
  · exact absurd (hb h) (by omega)
  · conv => whnf
    (repeat' (first | (refine And.intro (by (first | omega | assumption | (simp only [nadd_eq]; omega) | (simp [nadd_eq]; omega))) ?_; conv => whnf) | (refine arI64 (by omega) (by omega) ?_; conv => whnf) | (refine arU32 (by omega) (by omega) ?_; conv => whnf) | (refine arU8 (by omega) (by omega) ?_; conv => whnf)))
    refine finP_intro [0, 2] (.o (.l (.s 1 4 0 m 0))) [(1, some (.ar 4 m f))] 2 rfl ⟨rfl, rfl, rfl⟩ rfl rfl ?_ ?_ rfl
    · show SV.o (.l (.s 2 4 0 (0 + m) 0)) = _
      rw [Nat.zero_add]; rfl
    · refine ⟨?_, trivial⟩
      show EntLe _ (.ar 4 (0 + m) _) _
      refine ⟨rfl, Nat.zero_add m, fun i hi => ?_⟩
      simp [nadd_eq]
set_option maxRecDepth 8000 in
theorem traceA_spec (hs : Nat → Int) (r0 : Nat → List Value) : FSpec Tryz.prog 21 (machA 3 3 hs r0) 8 [.l (.p 0 0 0 0)] fun x h k => x = .o (.l (.s 8 4 0 3 0)) ∧ k = 9 ∧ h = machA 3 3 hs r0 ++ [(8, some (.ar 4 3 (rowsA r0 3)))] := by
  have hc := cloneT_spec (rowsA r0 3) 3 (by omega) (by omega)
  refine spec_of_ev Tryz.func21 ic21_eq (rs := [.t 2]) (by kernel_rfl) (by kernel_rfl) (by kernel_rfl) fun G hP hA => ?_
  unfold evF ic21
  conv => whnf
  (refine call_auto hP (hc) ?_; conv => whnf); (refine ⟨⟨rfl, rfl, rfl, has_a, rfl, rfl⟩, ?_⟩; conv => whnf)
  (refine fin_auto ?_; conv => whnf); exact ⟨rfl, rfl, rfl, rfl, has_a, rfl⟩
set_option maxRecDepth 8000 in
theorem stateA_spec (hs : Nat → Int) (r0 : Nat → List Value) : FSpec Tryz.prog 25 (machA 3 3 hs r0) 8 [.l (.p 0 0 0 0), .l (.v (.int .i64 0))] fun x h k => x = sInt .i64 2 ∧ k = 8 ∧ h = machA 3 3 hs r0 := by
  have hst := seatState_spec 1 (stA 3) (dlA 3) false true 0 (by omega) (by omega)
  refine spec_of_ev Tryz.func25 ic25_eq (rs := [.t 4]) (by kernel_rfl) (by kernel_rfl) (by kernel_rfl) fun G hP hA => ?_
  unfold evF ic25
  conv => whnf
  refine inv_promc hP invState_flat rfl rfl ?_
  conv => whnf
  (refine call_auto hP (hst) ?_; conv => whnf); (refine ⟨⟨rfl, rfl, rfl, has_a, rfl, rfl⟩, ?_⟩; conv => whnf)
  (refine fin_auto ?_; conv => whnf); exact ⟨rfl, rfl, rfl, rfl, has_a, rfl⟩
set_option maxRecDepth 8000 in
theorem awake18_spec : FSpec Tryz.prog 15 [] 0 [] fun x h n => x = sBool true ∧ n = 0 ∧ h = [] := by
  have hmn := machNew1_spec 1 (fun _ => 0) 0 0 0 0 0 0 (by omega) rfl
  have hrun := runA_spec (flatHs (fun _ => 0) 0 (fun _ => 0)) (fun _ => [])
  have htr := traceA_spec (flatHs (fun _ => 0) 0 (fun _ => 0)) (fun _ => [])
  have hst := stateA_spec (flatHs (fun _ => 0) 0 (fun _ => 0)) (fun _ => [])
  refine spec_of_ev Tryz.func15 ic15_eq (rs := [.t 0]) (by kernel_rfl) (by kernel_rfl) (by kernel_rfl) fun G hP hA => ?_
  unfold evF ic15
  conv => whnf
  (refine call_auto hP (hmn) ?_; conv => whnf); (refine ⟨⟨rfl, rfl, rfl, has_a, rfl, rfl⟩, ?_⟩; conv => whnf)
  refine callP_ghost (open_at 1 rfl (by decide) rfl rfl rfl) ?_
  refine callP_ghost (v := [_, _]) (GSpec.nilc 3 2 4 (fun _ => []) rfl rfl) ?_
  (refine call_auto hP (hrun) ?_; conv => whnf); refine ⟨⟨rfl, rfl, rfl, ?_, rfl, rfl⟩, ?_⟩
  · refine ⟨has_a, has_a, has_a, has_a, has_a, has_a, has_a, has_a, ⟨rfl, Nat.le_refl 3, fun j hj => ?_⟩, trivial⟩
    rcases (show j = 0 ∨ j = 1 ∨ j = 2 by omega) with rfl | rfl | rfl <;> rfl
  conv => whnf
  (refine call_auto hP (htr) ?_; conv => whnf); (refine ⟨⟨rfl, rfl, rfl, has_a, rfl, rfl⟩, ?_⟩; conv => whnf)
  repeat' (refine And.intro (by decide) ?_; conv => whnf)
  (refine call_auto hP (hst) ?_; conv => whnf); (refine ⟨⟨rfl, rfl, rfl, has_a, rfl, rfl⟩, ?_⟩; conv => whnf)
  (refine fin_auto ?_; conv => whnf); exact ⟨rfl, rfl, rfl, rfl, has_a, rfl⟩
end Go.Proofs.YtlkfolopbehikaaGreat
set_option linter.unusedSimpArgs false
set_option linter.unusedVariables false
namespace Go.Proofs.YtlkfolopbehikaaGreat
open Go Go.Sx

set_option maxRecDepth 8000 in
set_option maxHeartbeats 4000000 in
theorem mnews1_spec (haw : FSpec Tryz.prog 15 [] 0 [] fun x h n => x = sBool true ∧ n = 0 ∧ h = []) (m : Nat) (h : Nat → Int) (start : Nat) (slots pool budget glob loc : Int) (hz : checkZ 1 m h slots pool budget glob loc = 0) (h2 : 1 ≤ m ∧ m ≤ 64) (hb : anyZ badH h m = false)  :
    FSpec Tryz.prog 3 [(0, some (.ro 1 m (numE h)))] 1 [confA 1 0 m start slots pool budget glob loc] fun x h' k => x = sBool true ∧ k = 1 ∧ h' = [] := by
  have hR := lawRef_spec 1 m h start slots pool budget glob loc
  have hck := check_spec 1 m h start slots pool budget glob loc (by omega)
  rw [hz] at hck
  have hmn := machNew1_spec m h start slots pool budget glob loc h2 hb 
  have hml := machLen1_spec m h start slots pool budget glob loc
  have hno := machNow_spec 221 m
  have htr := machTrace_nil 221 m
  have hid := machIdle_spec 221 m
  refine spec_of_ev Tryz.func3 ic3_eq (rs := [.t 2]) (by kernel_rfl) (by kernel_rfl) (by kernel_rfl) fun G hP hA => ?_
  unfold evF ic3
  conv => whnf
  refine dsplit (fun hq => absurd (show (80 : Int) < (m : Int) from hq) (by omega)) (fun _ => ?_)
  conv => whnf
  (refine call_auto hP (hmn) ?_; conv => whnf); (refine ⟨⟨rfl, rfl, rfl, has_a, rfl, rfl⟩, ?_⟩; conv => whnf)
  (refine call_auto hP (hR) ?_; conv => whnf); (refine ⟨⟨rfl, rfl, rfl, has_a, rfl, rfl⟩, ?_⟩; conv => whnf)
  (refine call_auto hP (hck) ?_; conv => whnf); (refine ⟨⟨rfl, rfl, rfl, has_a, rfl, rfl⟩, ?_⟩; conv => whnf)
  (refine drawP_intro (by rw [hP]; exact follows) (by kernel_rfl) ?_; conv => whnf)
  (refine callD_auto hP (hml) ?_; conv => whnf); (refine ⟨⟨rfl, rfl, rfl, has_a, rfl, rfl⟩, ?_⟩; conv => whnf)
  refine dsplit (fun _ => ?_) (fun hq => absurd (rfl : (m : Int) = (m : Int)) hq)
  conv => whnf
  (refine callD_auto hP (hno) ?_; conv => whnf); (refine ⟨⟨rfl, rfl, rfl, has_a, rfl, rfl⟩, ?_⟩; conv => whnf)
  (refine callD_auto hP (htr) ?_; conv => whnf); (refine ⟨⟨rfl, rfl, rfl, has_a, rfl, rfl⟩, ?_⟩; conv => whnf)
  (refine callD_auto hP (hid) ?_; conv => whnf); (refine ⟨⟨rfl, rfl, rfl, has_a, rfl, rfl⟩, ?_⟩; conv => whnf)
  (refine callD_auto hP (haw) ?_; conv => whnf); (refine ⟨⟨rfl, rfl, rfl, has_a, rfl, rfl⟩, ?_⟩; conv => whnf)
  (repeat (refine And.intro (by (conv => whnf); first | exact ⟨rfl, rfl, rfl⟩ | (refine And.intro (by (first | omega | assumption | (simp only [nadd_eq]; omega) | (simp [nadd_eq]; omega))) ?_; (conv => whnf); exact ⟨rfl, rfl, rfl⟩)) ?_; conv => whnf))
  (refine fin_auto ?_; conv => whnf); exact ⟨rfl, rfl, rfl, rfl, has_a, rfl⟩
end Go.Proofs.YtlkfolopbehikaaGreat
set_option linter.unusedSimpArgs false
set_option linter.unusedVariables false
namespace Go.Proofs.YtlkfolopbehikaaGreat
open Go Go.Sx

set_option maxRecDepth 8000 in
set_option maxHeartbeats 4000000 in
theorem mnews2_spec (haw : FSpec Tryz.prog 15 [] 0 [] fun x h n => x = sBool true ∧ n = 0 ∧ h = []) (m : Nat) (h : Nat → Int) (start slots : Nat) (pool budget glob loc : Int) (hz : checkZ 2 m h slots pool budget glob loc = 0) (h2 : 1 ≤ m ∧ m ≤ 64) (hb : anyZ badH h m = false) (hu : start < 4294967296) (hn : isSize slots) (hmn : m ≤ slots) :
    FSpec Tryz.prog 3 [(0, some (.ro 1 m (numE h)))] 1 [confA 2 0 m start slots pool budget glob loc] fun x h' k => x = sBool true ∧ k = 1 ∧ h' = [] := by
  have hR := lawRef_spec 2 m h start slots pool budget glob loc
  have hck := check_spec 2 m h start slots pool budget glob loc (by omega)
  rw [hz] at hck
  have hmn := machNew2_spec m h start slots pool budget glob loc h2 hb hu hn hmn
  have hml := machLen2_spec m h start slots pool budget glob loc
  have hno := machNow_spec 224 m
  have htr := machTrace_nil 224 m
  have hid := machIdle_spec 224 m
  refine spec_of_ev Tryz.func3 ic3_eq (rs := [.t 2]) (by kernel_rfl) (by kernel_rfl) (by kernel_rfl) fun G hP hA => ?_
  unfold evF ic3
  conv => whnf
  refine dsplit (fun hq => absurd (show (80 : Int) < (m : Int) from hq) (by omega)) (fun _ => ?_)
  conv => whnf
  (refine call_auto hP (hmn) ?_; conv => whnf); (refine ⟨⟨rfl, rfl, rfl, has_a, rfl, rfl⟩, ?_⟩; conv => whnf)
  (refine call_auto hP (hR) ?_; conv => whnf); (refine ⟨⟨rfl, rfl, rfl, has_a, rfl, rfl⟩, ?_⟩; conv => whnf)
  (refine call_auto hP (hck) ?_; conv => whnf); (refine ⟨⟨rfl, rfl, rfl, has_a, rfl, rfl⟩, ?_⟩; conv => whnf)
  (refine drawP_intro (by rw [hP]; exact follows) (by kernel_rfl) ?_; conv => whnf)
  (refine callD_auto hP (hml) ?_; conv => whnf); (refine ⟨⟨rfl, rfl, rfl, has_a, rfl, rfl⟩, ?_⟩; conv => whnf)
  refine dsplit (fun _ => ?_) (fun hq => absurd (rfl : (m : Int) = (m : Int)) hq)
  conv => whnf
  (refine callD_auto hP (hno) ?_; conv => whnf); (refine ⟨⟨rfl, rfl, rfl, has_a, rfl, rfl⟩, ?_⟩; conv => whnf)
  (refine callD_auto hP (htr) ?_; conv => whnf); (refine ⟨⟨rfl, rfl, rfl, has_a, rfl, rfl⟩, ?_⟩; conv => whnf)
  (refine callD_auto hP (hid) ?_; conv => whnf); (refine ⟨⟨rfl, rfl, rfl, has_a, rfl, rfl⟩, ?_⟩; conv => whnf)
  (refine callD_auto hP (haw) ?_; conv => whnf); (refine ⟨⟨rfl, rfl, rfl, has_a, rfl, rfl⟩, ?_⟩; conv => whnf)
  (repeat (refine And.intro (by (conv => whnf); first | exact ⟨rfl, rfl, rfl⟩ | (refine And.intro (by (first | omega | assumption | (simp only [nadd_eq]; omega) | (simp [nadd_eq]; omega))) ?_; (conv => whnf); exact ⟨rfl, rfl, rfl⟩)) ?_; conv => whnf))
  (refine fin_auto ?_; conv => whnf); exact ⟨rfl, rfl, rfl, rfl, has_a, rfl⟩
end Go.Proofs.YtlkfolopbehikaaGreat
set_option linter.unusedSimpArgs false
set_option linter.unusedVariables false
namespace Go.Proofs.YtlkfolopbehikaaGreat
open Go Go.Sx

set_option maxRecDepth 8000 in
set_option maxHeartbeats 4000000 in
theorem mnews3_spec (haw : FSpec Tryz.prog 15 [] 0 [] fun x h n => x = sBool true ∧ n = 0 ∧ h = []) (m : Nat) (h : Nat → Int) (start : Nat) (slots pool budget glob loc : Int) (hz : checkZ 3 m h slots pool budget glob loc = 0) (h2 : 1 ≤ m ∧ m ≤ 64) (hb : anyZ badH h m = false)  :
    FSpec Tryz.prog 3 [(0, some (.ro 1 m (numE h)))] 1 [confA 3 0 m start slots pool budget glob loc] fun x h' k => x = sBool true ∧ k = 1 ∧ h' = [] := by
  have hR := lawRef_spec 3 m h start slots pool budget glob loc
  have hck := check_spec 3 m h start slots pool budget glob loc (by omega)
  rw [hz] at hck
  have hmn := machNew3_spec m h start slots pool budget glob loc h2 hb 
  have hml := machLen3_spec m h start slots pool budget glob loc
  have hno := machNow_spec 227 m
  have htr := machTrace_nil 227 m
  have hid := machIdle_spec 227 m
  refine spec_of_ev Tryz.func3 ic3_eq (rs := [.t 2]) (by kernel_rfl) (by kernel_rfl) (by kernel_rfl) fun G hP hA => ?_
  unfold evF ic3
  conv => whnf
  refine dsplit (fun hq => absurd (show (80 : Int) < (m : Int) from hq) (by omega)) (fun _ => ?_)
  conv => whnf
  (refine call_auto hP (hmn) ?_; conv => whnf); (refine ⟨⟨rfl, rfl, rfl, has_a, rfl, rfl⟩, ?_⟩; conv => whnf)
  (refine call_auto hP (hR) ?_; conv => whnf); (refine ⟨⟨rfl, rfl, rfl, has_a, rfl, rfl⟩, ?_⟩; conv => whnf)
  (refine call_auto hP (hck) ?_; conv => whnf); (refine ⟨⟨rfl, rfl, rfl, has_a, rfl, rfl⟩, ?_⟩; conv => whnf)
  (refine drawP_intro (by rw [hP]; exact follows) (by kernel_rfl) ?_; conv => whnf)
  (refine callD_auto hP (hml) ?_; conv => whnf); (refine ⟨⟨rfl, rfl, rfl, has_a, rfl, rfl⟩, ?_⟩; conv => whnf)
  refine dsplit (fun _ => ?_) (fun hq => absurd (rfl : (m : Int) = (m : Int)) hq)
  conv => whnf
  (refine callD_auto hP (hno) ?_; conv => whnf); (refine ⟨⟨rfl, rfl, rfl, has_a, rfl, rfl⟩, ?_⟩; conv => whnf)
  (refine callD_auto hP (htr) ?_; conv => whnf); (refine ⟨⟨rfl, rfl, rfl, has_a, rfl, rfl⟩, ?_⟩; conv => whnf)
  (refine callD_auto hP (hid) ?_; conv => whnf); (refine ⟨⟨rfl, rfl, rfl, has_a, rfl, rfl⟩, ?_⟩; conv => whnf)
  (refine callD_auto hP (haw) ?_; conv => whnf); (refine ⟨⟨rfl, rfl, rfl, has_a, rfl, rfl⟩, ?_⟩; conv => whnf)
  (repeat (refine And.intro (by (conv => whnf); first | exact ⟨rfl, rfl, rfl⟩ | (refine And.intro (by (first | omega | assumption | (simp only [nadd_eq]; omega) | (simp [nadd_eq]; omega))) ?_; (conv => whnf); exact ⟨rfl, rfl, rfl⟩)) ?_; conv => whnf))
  (refine fin_auto ?_; conv => whnf); exact ⟨rfl, rfl, rfl, rfl, has_a, rfl⟩
end Go.Proofs.YtlkfolopbehikaaGreat
set_option linter.unusedSimpArgs false
set_option linter.unusedVariables false
namespace Go.Proofs.YtlkfolopbehikaaGreat
open Go Go.Sx

set_option maxRecDepth 8000 in
set_option maxHeartbeats 4000000 in
theorem mnews4_spec (haw : FSpec Tryz.prog 15 [] 0 [] fun x h n => x = sBool true ∧ n = 0 ∧ h = []) (m : Nat) (h : Nat → Int) (start : Nat) (slots pool budget glob loc : Int) (hz : checkZ 4 m h slots pool budget glob loc = 0) (h2 : 1 ≤ m ∧ m ≤ 64) (hb : anyZ badH h m = false)  :
    FSpec Tryz.prog 3 [(0, some (.ro 1 m (numE h)))] 1 [confA 4 0 m start slots pool budget glob loc] fun x h' k => x = sBool true ∧ k = 1 ∧ h' = [] := by
  have hR := lawRef_spec 4 m h start slots pool budget glob loc
  have hck := check_spec 4 m h start slots pool budget glob loc (by omega)
  rw [hz] at hck
  have hmn := machNew4_spec m h start slots pool budget glob loc h2 hb 
  have hml := machLen4_spec m h start slots pool budget glob loc
  have hno := machNow_spec 230 m
  have htr := machTrace_nil 230 m
  have hid := machIdle_spec 230 m
  refine spec_of_ev Tryz.func3 ic3_eq (rs := [.t 2]) (by kernel_rfl) (by kernel_rfl) (by kernel_rfl) fun G hP hA => ?_
  unfold evF ic3
  conv => whnf
  refine dsplit (fun hq => absurd (show (80 : Int) < (m : Int) from hq) (by omega)) (fun _ => ?_)
  conv => whnf
  (refine call_auto hP (hmn) ?_; conv => whnf); (refine ⟨⟨rfl, rfl, rfl, has_a, rfl, rfl⟩, ?_⟩; conv => whnf)
  (refine call_auto hP (hR) ?_; conv => whnf); (refine ⟨⟨rfl, rfl, rfl, has_a, rfl, rfl⟩, ?_⟩; conv => whnf)
  (refine call_auto hP (hck) ?_; conv => whnf); (refine ⟨⟨rfl, rfl, rfl, has_a, rfl, rfl⟩, ?_⟩; conv => whnf)
  (refine drawP_intro (by rw [hP]; exact follows) (by kernel_rfl) ?_; conv => whnf)
  (refine callD_auto hP (hml) ?_; conv => whnf); (refine ⟨⟨rfl, rfl, rfl, has_a, rfl, rfl⟩, ?_⟩; conv => whnf)
  refine dsplit (fun _ => ?_) (fun hq => absurd (rfl : (m : Int) = (m : Int)) hq)
  conv => whnf
  (refine callD_auto hP (hno) ?_; conv => whnf); (refine ⟨⟨rfl, rfl, rfl, has_a, rfl, rfl⟩, ?_⟩; conv => whnf)
  (refine callD_auto hP (htr) ?_; conv => whnf); (refine ⟨⟨rfl, rfl, rfl, has_a, rfl, rfl⟩, ?_⟩; conv => whnf)
  (refine callD_auto hP (hid) ?_; conv => whnf); (refine ⟨⟨rfl, rfl, rfl, has_a, rfl, rfl⟩, ?_⟩; conv => whnf)
  (refine callD_auto hP (haw) ?_; conv => whnf); (refine ⟨⟨rfl, rfl, rfl, has_a, rfl, rfl⟩, ?_⟩; conv => whnf)
  (repeat (refine And.intro (by (conv => whnf); first | exact ⟨rfl, rfl, rfl⟩ | (refine And.intro (by (first | omega | assumption | (simp only [nadd_eq]; omega) | (simp [nadd_eq]; omega))) ?_; (conv => whnf); exact ⟨rfl, rfl, rfl⟩)) ?_; conv => whnf))
  (refine fin_auto ?_; conv => whnf); exact ⟨rfl, rfl, rfl, rfl, has_a, rfl⟩
end Go.Proofs.YtlkfolopbehikaaGreat
set_option linter.unusedSimpArgs false
set_option linter.unusedVariables false
namespace Go.Proofs.YtlkfolopbehikaaGreat
open Go Go.Sx

set_option maxRecDepth 8000 in
set_option maxHeartbeats 4000000 in
theorem mnews5_spec (haw : FSpec Tryz.prog 15 [] 0 [] fun x h n => x = sBool true ∧ n = 0 ∧ h = []) (m : Nat) (h : Nat → Int) (start : Nat) (slots : Int) (pool : Nat) (budget glob loc : Int) (hz : checkZ 5 m h slots pool budget glob loc = 0) (h2 : 1 ≤ m ∧ m ≤ 64) (hb : anyZ badH h m = false) (hp : 1 ≤ pool ∧ pool ≤ 8) :
    FSpec Tryz.prog 3 [(0, some (.ro 1 m (numE h)))] 1 [confA 5 0 m start slots pool budget glob loc] fun x h' k => x = sBool true ∧ k = 1 ∧ h' = [] := by
  have hR := lawRef_spec 5 m h start slots pool budget glob loc
  have hck := check_spec 5 m h start slots pool budget glob loc (by omega)
  rw [hz] at hck
  have hmn := machNew5_spec m h start slots pool budget glob loc h2 hb hp
  have hml := machLen5_spec m h start slots pool budget glob loc
  have hno := machNow_spec 233 m
  have htr := machTrace_nil 233 m
  have hid := machIdle_spec 233 m
  refine spec_of_ev Tryz.func3 ic3_eq (rs := [.t 2]) (by kernel_rfl) (by kernel_rfl) (by kernel_rfl) fun G hP hA => ?_
  unfold evF ic3
  conv => whnf
  refine dsplit (fun hq => absurd (show (80 : Int) < (m : Int) from hq) (by omega)) (fun _ => ?_)
  conv => whnf
  (refine call_auto hP (hmn) ?_; conv => whnf); (refine ⟨⟨rfl, rfl, rfl, has_a, rfl, rfl⟩, ?_⟩; conv => whnf)
  (refine call_auto hP (hR) ?_; conv => whnf); (refine ⟨⟨rfl, rfl, rfl, has_a, rfl, rfl⟩, ?_⟩; conv => whnf)
  (refine call_auto hP (hck) ?_; conv => whnf); (refine ⟨⟨rfl, rfl, rfl, has_a, rfl, rfl⟩, ?_⟩; conv => whnf)
  (refine drawP_intro (by rw [hP]; exact follows) (by kernel_rfl) ?_; conv => whnf)
  (refine callD_auto hP (hml) ?_; conv => whnf); (refine ⟨⟨rfl, rfl, rfl, has_a, rfl, rfl⟩, ?_⟩; conv => whnf)
  refine dsplit (fun _ => ?_) (fun hq => absurd (rfl : (m : Int) = (m : Int)) hq)
  conv => whnf
  (refine callD_auto hP (hno) ?_; conv => whnf); (refine ⟨⟨rfl, rfl, rfl, has_a, rfl, rfl⟩, ?_⟩; conv => whnf)
  (refine callD_auto hP (htr) ?_; conv => whnf); (refine ⟨⟨rfl, rfl, rfl, has_a, rfl, rfl⟩, ?_⟩; conv => whnf)
  (refine callD_auto hP (hid) ?_; conv => whnf); (refine ⟨⟨rfl, rfl, rfl, has_a, rfl, rfl⟩, ?_⟩; conv => whnf)
  (refine callD_auto hP (haw) ?_; conv => whnf); (refine ⟨⟨rfl, rfl, rfl, has_a, rfl, rfl⟩, ?_⟩; conv => whnf)
  (repeat (refine And.intro (by (conv => whnf); first | exact ⟨rfl, rfl, rfl⟩ | (refine And.intro (by (first | omega | assumption | (simp only [nadd_eq]; omega) | (simp [nadd_eq]; omega))) ?_; (conv => whnf); exact ⟨rfl, rfl, rfl⟩)) ?_; conv => whnf))
  (refine fin_auto ?_; conv => whnf); exact ⟨rfl, rfl, rfl, rfl, has_a, rfl⟩
end Go.Proofs.YtlkfolopbehikaaGreat
set_option linter.unusedSimpArgs false
set_option linter.unusedVariables false
namespace Go.Proofs.YtlkfolopbehikaaGreat
open Go Go.Sx

set_option maxRecDepth 8000 in
set_option maxHeartbeats 4000000 in
theorem mnews6_spec (haw : FSpec Tryz.prog 15 [] 0 [] fun x h n => x = sBool true ∧ n = 0 ∧ h = []) (m : Nat) (h : Nat → Int) (start : Nat) (slots pool budget glob loc : Int) (hz : checkZ 6 m h slots pool budget glob loc = 0) (h2 : 1 ≤ m ∧ m ≤ 64) (hb : anyZ badH h m = false)  :
    FSpec Tryz.prog 3 [(0, some (.ro 1 m (numE h)))] 1 [confA 6 0 m start slots pool budget glob loc] fun x h' k => x = sBool true ∧ k = 1 ∧ h' = [] := by
  have hR := lawRef_spec 6 m h start slots pool budget glob loc
  have hck := check_spec 6 m h start slots pool budget glob loc (by omega)
  rw [hz] at hck
  have hmn := machNew6_spec m h start slots pool budget glob loc h2 hb 
  have hml := machLen6_spec m h start slots pool budget glob loc
  have hno := machNow_spec 236 m
  have htr := machTrace_nil 236 m
  have hid := machIdle_spec 236 m
  refine spec_of_ev Tryz.func3 ic3_eq (rs := [.t 2]) (by kernel_rfl) (by kernel_rfl) (by kernel_rfl) fun G hP hA => ?_
  unfold evF ic3
  conv => whnf
  refine dsplit (fun hq => absurd (show (80 : Int) < (m : Int) from hq) (by omega)) (fun _ => ?_)
  conv => whnf
  (refine call_auto hP (hmn) ?_; conv => whnf); (refine ⟨⟨rfl, rfl, rfl, has_a, rfl, rfl⟩, ?_⟩; conv => whnf)
  (refine call_auto hP (hR) ?_; conv => whnf); (refine ⟨⟨rfl, rfl, rfl, has_a, rfl, rfl⟩, ?_⟩; conv => whnf)
  (refine call_auto hP (hck) ?_; conv => whnf); (refine ⟨⟨rfl, rfl, rfl, has_a, rfl, rfl⟩, ?_⟩; conv => whnf)
  (refine drawP_intro (by rw [hP]; exact follows) (by kernel_rfl) ?_; conv => whnf)
  (refine callD_auto hP (hml) ?_; conv => whnf); (refine ⟨⟨rfl, rfl, rfl, has_a, rfl, rfl⟩, ?_⟩; conv => whnf)
  refine dsplit (fun _ => ?_) (fun hq => absurd (rfl : (m : Int) = (m : Int)) hq)
  conv => whnf
  (refine callD_auto hP (hno) ?_; conv => whnf); (refine ⟨⟨rfl, rfl, rfl, has_a, rfl, rfl⟩, ?_⟩; conv => whnf)
  (refine callD_auto hP (htr) ?_; conv => whnf); (refine ⟨⟨rfl, rfl, rfl, has_a, rfl, rfl⟩, ?_⟩; conv => whnf)
  (refine callD_auto hP (hid) ?_; conv => whnf); (refine ⟨⟨rfl, rfl, rfl, has_a, rfl, rfl⟩, ?_⟩; conv => whnf)
  (refine callD_auto hP (haw) ?_; conv => whnf); (refine ⟨⟨rfl, rfl, rfl, has_a, rfl, rfl⟩, ?_⟩; conv => whnf)
  (repeat (refine And.intro (by (conv => whnf); first | exact ⟨rfl, rfl, rfl⟩ | (refine And.intro (by (first | omega | assumption | (simp only [nadd_eq]; omega) | (simp [nadd_eq]; omega))) ?_; (conv => whnf); exact ⟨rfl, rfl, rfl⟩)) ?_; conv => whnf))
  (refine fin_auto ?_; conv => whnf); exact ⟨rfl, rfl, rfl, rfl, has_a, rfl⟩
end Go.Proofs.YtlkfolopbehikaaGreat
set_option linter.unusedSimpArgs false
set_option linter.unusedVariables false
namespace Go.Proofs.YtlkfolopbehikaaGreat
open Go Go.Sx

set_option maxRecDepth 8000 in
set_option maxHeartbeats 4000000 in
theorem mnews7_spec (haw : FSpec Tryz.prog 15 [] 0 [] fun x h n => x = sBool true ∧ n = 0 ∧ h = []) (m : Nat) (h : Nat → Int) (start : Nat) (slots pool budget : Int) (glob loc : Nat) (hz : checkZ 7 m h slots pool budget glob loc = 0) (h2 : 1 ≤ m ∧ m ≤ 64) (hb : anyZ badH h m = false) (hg : glob = 1 ∨ glob = 4) (hl : isIn loc) (hbu : 1 ≤ budget ∧ budget ≤ 1000) :
    FSpec Tryz.prog 3 [(0, some (.ro 1 m (numE h)))] 1 [confA 7 0 m start slots pool budget glob loc] fun x h' k => x = sBool true ∧ k = 1 ∧ h' = [] := by
  have hR := lawRef_spec 7 m h start slots pool budget glob loc
  have hck := check_spec 7 m h start slots pool budget glob loc (by omega)
  rw [hz] at hck
  have hmn := machNew7_spec m h start slots pool budget glob loc h2 hb hg hl hbu
  have hml := machLen7_spec m h start slots pool budget glob loc
  have hno := machNow_spec 239 m
  have htr := machTrace_nil 239 m
  have hid := machIdle_spec 239 m
  refine spec_of_ev Tryz.func3 ic3_eq (rs := [.t 2]) (by kernel_rfl) (by kernel_rfl) (by kernel_rfl) fun G hP hA => ?_
  unfold evF ic3
  conv => whnf
  refine dsplit (fun hq => absurd (show (80 : Int) < (m : Int) from hq) (by omega)) (fun _ => ?_)
  conv => whnf
  (refine call_auto hP (hmn) ?_; conv => whnf); (refine ⟨⟨rfl, rfl, rfl, has_a, rfl, rfl⟩, ?_⟩; conv => whnf)
  (refine call_auto hP (hR) ?_; conv => whnf); (refine ⟨⟨rfl, rfl, rfl, has_a, rfl, rfl⟩, ?_⟩; conv => whnf)
  (refine call_auto hP (hck) ?_; conv => whnf); (refine ⟨⟨rfl, rfl, rfl, has_a, rfl, rfl⟩, ?_⟩; conv => whnf)
  (refine drawP_intro (by rw [hP]; exact follows) (by kernel_rfl) ?_; conv => whnf)
  (refine callD_auto hP (hml) ?_; conv => whnf); (refine ⟨⟨rfl, rfl, rfl, has_a, rfl, rfl⟩, ?_⟩; conv => whnf)
  refine dsplit (fun _ => ?_) (fun hq => absurd (rfl : (m : Int) = (m : Int)) hq)
  conv => whnf
  (refine callD_auto hP (hno) ?_; conv => whnf); (refine ⟨⟨rfl, rfl, rfl, has_a, rfl, rfl⟩, ?_⟩; conv => whnf)
  (refine callD_auto hP (htr) ?_; conv => whnf); (refine ⟨⟨rfl, rfl, rfl, has_a, rfl, rfl⟩, ?_⟩; conv => whnf)
  (refine callD_auto hP (hid) ?_; conv => whnf); (refine ⟨⟨rfl, rfl, rfl, has_a, rfl, rfl⟩, ?_⟩; conv => whnf)
  (refine callD_auto hP (haw) ?_; conv => whnf); (refine ⟨⟨rfl, rfl, rfl, has_a, rfl, rfl⟩, ?_⟩; conv => whnf)
  (repeat (refine And.intro (by (conv => whnf); first | exact ⟨rfl, rfl, rfl⟩ | (refine And.intro (by (first | omega | assumption | (simp only [nadd_eq]; omega) | (simp [nadd_eq]; omega))) ?_; (conv => whnf); exact ⟨rfl, rfl, rfl⟩)) ?_; conv => whnf))
  (refine fin_auto ?_; conv => whnf); exact ⟨rfl, rfl, rfl, rfl, has_a, rfl⟩
end Go.Proofs.YtlkfolopbehikaaGreat
set_option linter.unusedSimpArgs false
set_option linter.unusedVariables false
namespace Go.Proofs.YtlkfolopbehikaaGreat
open Go Go.Sx

set_option maxRecDepth 8000 in
theorem mnews8_spec (haw : FSpec Tryz.prog 15 [] 0 [] fun x h n => x = sBool true ∧ n = 0 ∧ h = []) (kind : Int) (m : Nat) (h : Nat → Int) (start : Nat) (slots pool budget glob loc : Int) (hm : m ≤ 80) (hc : checkZ kind m h slots pool budget glob loc ≠ 0) :
    FSpec Tryz.prog 3 [(0, some (.ro 1 m (numE h)))] 1 [confA kind 0 m start slots pool budget glob loc] fun x h' k => x = sBool true ∧ k = 1 ∧ h' = [] := by
  have hR := lawRef_spec kind m h start slots pool budget glob loc
  have hck := check_spec kind m h start slots pool budget glob loc (by omega)
  have hmn := machNew_err kind m h start slots pool budget glob loc hm hc
  refine spec_of_ev Tryz.func3 ic3_eq (rs := [.t 2]) (by kernel_rfl) (by kernel_rfl) (by kernel_rfl) fun G hP hA => ?_
  unfold evF ic3
  conv => whnf
  refine dsplit (fun hq => absurd (show (80 : Int) < (m : Int) from hq) (by omega)) (fun _ => ?_)
  conv => whnf
  (refine call_auto hP (hmn) ?_; conv => whnf); (refine ⟨⟨rfl, rfl, rfl, has_a, rfl, rfl⟩, ?_⟩; conv => whnf)
  (refine call_auto hP (hR) ?_; conv => whnf); (refine ⟨⟨rfl, rfl, rfl, has_a, rfl, rfl⟩, ?_⟩; conv => whnf)
  (refine call_auto hP (hck) ?_; conv => whnf); (refine ⟨⟨rfl, rfl, rfl, has_a, rfl, rfl⟩, ?_⟩; conv => whnf)
  refine dsplit (fun _ => ?_) (fun h1 => absurd (show checkZ kind m h slots pool budget glob loc ≠ 0 from hc) h1)
  conv => whnf
  refine dsplit (fun _ => ?_) (fun h1 => absurd (rfl : checkZ kind m h slots pool budget glob loc = checkZ kind m h slots pool budget glob loc) h1)
  conv => whnf
  (refine call_auto hP (haw) ?_; conv => whnf); (refine ⟨⟨rfl, rfl, rfl, has_a, rfl, rfl⟩, ?_⟩; conv => whnf)
  (refine fin_auto ?_; conv => whnf); exact ⟨rfl, rfl, rfl, rfl, has_a, rfl⟩
theorem mnews9_spec (haw : FSpec Tryz.prog 15 [] 0 [] fun x h n => x = sBool true ∧ n = 0 ∧ h = []) (kind : Int) (m : Nat) (h : Nat → Int) (start : Nat) (slots pool budget glob loc : Int) (h80 : 80 < m) :
    FSpec Tryz.prog 3 [(0, some (.ro 1 m (numE h)))] 1 [confA kind 0 m start slots pool budget glob loc] fun x h' k => x = sBool true ∧ k = 1 ∧ h' = [] := by
  refine spec_of_ev Tryz.func3 ic3_eq (rs := [.t 2]) (by kernel_rfl) (by kernel_rfl) (by kernel_rfl) fun G hP hA => ?_
  unfold evF ic3
  conv => whnf
  refine dsplit (fun _ => ?_) (fun hq => absurd (show (80 : Int) < (m : Int) by omega) hq)
  conv => whnf
  (refine call_auto hP (haw) ?_; conv => whnf); (refine ⟨⟨rfl, rfl, rfl, has_a, rfl, rfl⟩, ?_⟩; conv => whnf)
  (refine fin_auto ?_; conv => whnf); exact ⟨rfl, rfl, rfl, rfl, has_a, rfl⟩
end Go.Proofs.YtlkfolopbehikaaGreat
set_option linter.unusedSimpArgs false
set_option linter.unusedVariables false
namespace Go.Proofs.YtlkfolopbehikaaGreat
open Go Go.Sx

theorem mnews_spec (kind : Int) (m : Nat) (h : Nat → Int) (start : Nat) (slots pool budget glob loc : Int) (hs : start < 4294967296) :
    FSpec Tryz.prog 3 [(0, some (.ro 1 m (numE h)))] 1 [confA kind 0 m start slots pool budget glob loc] fun x h' k => x = sBool true := by
  refine FSpec.mono (Q := fun x h' k => x = sBool true ∧ k = 1 ∧ h' = []) ?_ fun x h k hx => hx.1
  by_cases h80 : 80 < m
  · exact mnews9_spec awake18_spec kind m h start slots pool budget glob loc h80
  by_cases hc : checkZ kind m h slots pool budget glob loc = 0
  · obtain ⟨h1, h2, hb, h3, h5, h7⟩ := checkZ_range hc
    rcases (show kind = 1 ∨ kind = 2 ∨ kind = 3 ∨ kind = 4 ∨ kind = 5 ∨ kind = 6 ∨ kind = 7 by omega) with rfl | rfl | rfl | rfl | rfl | rfl | rfl
    · exact mnews1_spec awake18_spec m h start slots pool budget glob loc hc h2 hb
    · obtain ⟨hs1, hs2⟩ := h3 rfl
      obtain ⟨n, rfl, hn⟩ := sizeB_is hs1
      exact mnews2_spec awake18_spec m h start n pool budget glob loc hc h2 hb hs hn (by omega)
    · exact mnews3_spec awake18_spec m h start slots pool budget glob loc hc h2 hb
    · exact mnews4_spec awake18_spec m h start slots pool budget glob loc hc h2 hb
    · have h5 := h5 rfl
      obtain ⟨n, rfl⟩ : ∃ n : Nat, pool = n := ⟨pool.toNat, by omega⟩
      exact mnews5_spec awake18_spec m h start slots n budget glob loc hc h2 hb (by omega)
    · exact mnews6_spec awake18_spec m h start slots pool budget glob loc hc h2 hb
    · obtain ⟨hg, hl, hbu⟩ := h7 rfl
      obtain ⟨g, rfl⟩ : ∃ g : Nat, glob = g := ⟨glob.toNat, by omega⟩
      obtain ⟨l, rfl⟩ : ∃ l : Nat, loc = l := ⟨loc.toNat, by omega⟩
      exact mnews7_spec awake18_spec m h start slots pool budget g l hc h2 hb (by omega) (by unfold isIn; omega) hbu
  · exact mnews8_spec awake18_spec kind m h start slots pool budget glob loc (by omega) hc
end Go.Proofs.YtlkfolopbehikaaGreat
