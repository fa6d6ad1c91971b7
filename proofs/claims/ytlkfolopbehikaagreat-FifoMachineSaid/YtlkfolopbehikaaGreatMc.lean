/- part · part · part · part · part · part · part · part · part · part · part · part -/
import Derived.Test.YtlkfolopbehikaaGreatMb
import Derived.Test.YtlkfolopbehikaaGreatMa
import Derived.Test.YtlkfolopbehikaaGreatSxPS
set_option linter.unusedSimpArgs false
set_option linter.unusedVariables false
set_option maxHeartbeats 8000000
set_option maxRecDepth 8000
namespace Go.Proofs.YtlkfolopbehikaaGreat
open Go Go.Sx
def ZFD (no : Nat -> Int) (f : Int) (q : List Nat) : Int := match q.getLast? with | some t => no t | none => f
theorem ZHe (no : Nat -> Int) (f : Int) (q : List Nat) (t : Nat) : ZFD no f (q ++ [t]) = no t := by simp [ZFD]
theorem ZOQ {no : Nat -> Int} {f : Int} {q : List Nat} {j u : Nat} (h : q.length = j + 1) (hu : q[j]? = some u) : ZFD no f q = no u := by
 unfold ZFD
 rw [List.getLast?_eq_getElem?, show q.length - 1 = j by omega, hu]
structure ClInv (n tl : Nat) (L : CL) (ws : Nat -> Int) (q : List Nat) (f : Int) : Prop where
 qs : QSt L.ss.st n q
 on : ∀ t, t ∈ q ↔ L.ss.st t = 1 /\ L.sp t = 2 \/ L.ss.st t = 2 \/ L.ss.st t = 3 \/ L.ss.st t = 4
 sp : ∀ t, (L.sp t = 0 \/ L.sp t = 1 \/ L.sp t = 2) /\ (L.ss.st t = 0 -> L.sp t = 0)
 no : ∀ t, t < n -> 0 <= L.no t /\ L.no t <= n /\ L.no t ≠ f
 ni : ∀ t u, t < n -> u < n -> L.no t = L.no u -> t = u
 fr : 0 <= f /\ f <= n /\ ws (tl + 1 + f.toNat) = 0
 tail : ws tl = ZFD L.no f q
 ah : ∀ i t, q[i]? = some t -> (i = 0 -> L.ah t = f) /\ ∀ j u, i = j + 1 -> q[j]? = some u -> L.ah t = L.no u
 fl : ∀ t, t < n -> t ∈ q \/ L.ss.st t = 1 /\ L.sp t = 1 -> ws (tl + 1 + (L.no t).toNat) = 1
theorem ZLw {n nw t ta : Nat} (tl : Int) (L : CL) (s : PS) (ht : t < n) : ZBQ n nw tl (t : Int) ta L s = ZFf t (ZCn nw tl t ta L s) := by
 unfold ZBQ; rw [ZDu ht]; rfl
theorem ZOR {tl n : Nat} {k : Int} (h0 : 0 <= k) (h1 : k <= n) (hb : tl + n <= 100000) : clA tl k = ((tl + 1 + k.toNat : Nat) : Int) := by
 unfold clA; rw [ZBa (by omega) (by omega)]; omega
theorem ZQq {n nw tl t ta : Nat} {L : CL} {s : PS} {q : List Nat} {f : Int} (H : ClInv n tl L s.ws q f) (ht : t < n) (hn : n <= 64) (hx : tl + n + 1 < nw) (hnw : nw <= 4096) :
  ∃ q' f', ClInv n tl (ZBQ n nw tl t ta L s).2.1 (ZBQ n nw tl t ta L s).2.2.ws q' f' /\ Mv (L.ss.st t) t q (ZBQ n nw tl t ta L s).1 q' /\ ∀ a, a < tl \/ tl + n + 1 < a -> (ZBQ n nw tl t ta L s).2.2.ws a = s.ws a := by
 rw [ZLw tl L s ht]
 have hr := H.qs.rng t
 obtain ⟨hsp, hs0⟩ := H.sp t
 obtain ⟨n0, n1, n2⟩ := H.no t ht
 obtain ⟨f0, f1, f2⟩ := H.fr
 have ha := ZOR n0 n1 (show tl + n <= 100000 by omega)
 have hna : tl + 1 + (L.no t).toNat < nw := by omega
 rcases (show L.ss.st t = 1 \/ L.ss.st t = 3 \/ L.ss.st t = 4 \/ L.ss.st t = 0 \/ L.ss.st t = 2 by omega) with e | e | e | e | e
 ·have hss : enSS L.ss t 0 = L.ss := ZDK (by rw [e]; decide)
  rcases hsp with e0 | e0 | e0
  ·have hq : t ∉ q := fun h => by have := (H.on t).1 h; omega
   have hmd : ZCn nw tl t ta L s = (evD 0, ⟨L.ss, L.no, L.ah, updF L.sp t 1⟩, wtS nw ta (clA tl (L.no t)) 1 s) := by
    simp only [ZCn, e, decide_true, pick, clLk, e0]
   rw [hmd]
   simp only [ZFf, evD, hss, ha, ZDX hna]
   refine ⟨q, f, ⟨H.qs, fun u => ?_, fun u => ?_, H.no, H.ni, ⟨f0, f1, ?_⟩, ?_, H.ah, fun u hu hh => ?_⟩, ⟨⟨rfl, rfl⟩, fun _ h => by (cases h), fun _ _ => .inl ⟨rfl, rfl⟩, fun h => by omega, fun h => absurd e h⟩, fun a h1 => ZAA _ _ (by omega)⟩
   ·by_cases h : u = t
    ·subst h; simp [ZAC, e, hq]
    ·simp only [ZAA _ _ h]; exact H.on u
   ·by_cases h : u = t
    ·subst h; simp [ZAC, e]
    ·simp only [ZAA _ _ h]; exact H.sp u
   ·rw [ZAA _ _ (show tl + 1 + f.toNat ≠ tl + 1 + (L.no t).toNat by omega)]; exact f2
   ·rw [ZAA _ _ (show tl ≠ tl + 1 + (L.no t).toNat by omega)]; exact H.tail
   ·by_cases h : u = t
    ·subst h; simp only [ZAC]
    ·simp only [ZAA _ _ h] at hh
     obtain ⟨m0, m1, m2⟩ := H.no u hu
     have h3 : L.no u ≠ L.no t := fun hc => h (H.ni u t hu ht hc)
     rw [ZAA _ _ (show tl + 1 + (L.no u).toNat ≠ tl + 1 + (L.no t).toNat by omega)]
     exact H.fl u hu hh
  ·have hq : t ∉ q := fun h => by have := (H.on t).1 h; omega
   have htl : tl < nw := by omega
   have hlast : 0 <= ZFD L.no f q /\ ZFD L.no f q <= n := by
    unfold ZFD
    cases hl : q.getLast? with
    | none => exact ⟨f0, f1⟩
    | some u =>
     obtain ⟨m0, m1, m2⟩ := H.no u (H.qs.lt u (List.mem_of_getLast? hl))
     exact ⟨m0, m1⟩
   have hmd : ZCn nw tl t ta L s = (⟨0, true, false, false⟩, ⟨L.ss, L.no, updF L.ah t (i64w (rdV nw tl s)), updF L.sp t 2⟩, wtS nw ta tl (u32w (L.no t)) s) := by
    simp only [ZCn, e, decide_true, pick, clLk, e0, Int.reduceEq, decide_false]
   rw [hmd]
   simp only [ZFf, hss, ZDW htl, ZDX htl, H.tail, ZBa (show -9223372036854775808 <= ZFD L.no f q by omega) (by omega)]
   have hw : u32w (L.no t) = L.no t := by rw [ZON]; omega
   refine ⟨q ++ [t], f, ⟨H.qs.enq ht e hq, fun u => ?_, fun u => ?_, H.no, H.ni, ⟨f0, f1, ?_⟩, ?_, fun i u hi => ?_, fun u hu hh => ?_⟩, ⟨⟨rfl, rfl⟩, fun _ _ => ⟨hq, rfl, .inl rfl⟩, fun _ h => by (cases h), fun h => by omega, fun h => absurd e h⟩, fun a h1 => ZAA _ _ (by omega)⟩
   ·simp only [List.mem_append, List.mem_singleton]
    by_cases h : u = t
    ·subst h; simp [ZAC, e]
    ·simp only [ZAA _ _ h, h, or_false]; exact H.on u
   ·by_cases h : u = t
    ·subst h; simp [ZAC, e]
    ·simp only [ZAA _ _ h]; exact H.sp u
   ·rw [ZAA _ _ (show tl + 1 + f.toNat ≠ tl by omega)]; exact f2
   ·rw [ZAC, hw, ZHe]
   ·rcases ZGD hi with h | ⟨rfl, rfl⟩
    ·have h1 : u ≠ t := fun e => hq (e ▸ ZA8 h)
     simp only [ZAA _ _ h1]
     refine ⟨(H.ah i u h).1, fun j v hj hv => (H.ah i u h).2 j v hj ?_⟩
     rw [List.getElem?_append_left (by have := ZHd h; omega)] at hv
     exact hv
    ·simp only [ZAC]
     refine ⟨fun h0 => ?_, fun j v hj hv => ?_⟩
     ·rw [List.length_eq_zero_iff.1 h0]; rfl
     ·rw [List.getElem?_append_left (by omega)] at hv
      exact ZOQ hj hv
   ·rw [ZAA _ _ (show tl + 1 + (L.no u).toNat ≠ tl by omega)]
    by_cases h : u = t
    ·subst h; exact H.fl u hu (.inr ⟨e, e0⟩)
    ·simp only [ZAA _ _ h, List.mem_append, List.mem_singleton, h, or_false] at hh
     exact H.fl u hu hh
  ·have hin : t ∈ q := (H.on t).2 (.inl ⟨e, e0⟩)
   obtain ⟨i, hi, hg⟩ := ZGd hin
   obtain ⟨a1, a2⟩ := H.ah i t hg
   by_cases hz : i = 0
   ·subst hz
    have hh : q.head? = some t := ZB9.2 hg
    have hf := a1 rfl
    have hfa := ZOR f0 f1 (show tl + n <= 100000 by omega)
    have hmd : ZCn nw tl t ta L s = (evD 1, L, rdS nw ta (clA tl (L.ah t)) s) := by
     simp only [ZCn, e, decide_true, pick, clLk, e0, Int.reduceEq, decide_false, hf, hfa, ZDW (show tl + 1 + f.toNat < nw by omega), f2]
    have hs2 := ZA7 (ss := L.ss) (t := t) (e := 1) (v := 2) (by rw [e]; decide) (by omega)
    rw [hmd]
    simp only [ZFf, evD, ZDf]
    refine ⟨q, f, ⟨?_, fun u => ?_, fun u => ?_, H.no, H.ni, H.fr, H.tail, H.ah, fun u hu hh2 => ?_⟩, ⟨⟨rfl, rfl⟩, fun _ h => by (cases h), fun _ _ => .inr (.inl ⟨rfl, hh, rfl⟩), fun h => by omega, fun h => absurd e h⟩, fun a _ => by first | rfl | trivial⟩
    ·simp only [hs2]; exact H.qs.grant hh (.inl rfl)
    ·simp only [hs2]
     by_cases h : u = t
     ·subst h; simp [ZAC, hin]
     ·rw [ZAA _ _ h]; exact H.on u
    ·simp only [hs2]
     by_cases h : u = t
     ·subst h; simp [ZAC, e0]
     ·rw [ZAA _ _ h]; exact H.sp u
    ·simp only [hs2] at hh2
     refine H.fl u hu ?_
     by_cases h : u = t
     ·subst h; exact .inl hin
     ·rw [ZAA _ _ h] at hh2; exact hh2
   ·obtain ⟨v, hv⟩ : ∃ v, q[i - 1]? = some v := ⟨q[i - 1]'(by omega), List.getElem?_eq_getElem (by omega)⟩
    have hv1 := a2 (i - 1) v (by omega) hv
    have hvn := H.qs.lt v (ZA8 hv)
    obtain ⟨m0, m1, m2⟩ := H.no v hvn
    have hfa := ZOR m0 m1 (show tl + n <= 100000 by omega)
    have hf1 := H.fl v hvn (.inl (ZA8 hv))
    have hmd : ZCn nw tl t ta L s = (evD 0, L, rdS nw ta (clA tl (L.ah t)) s) := by
     simp only [ZCn, e, decide_true, pick, clLk, e0, Int.reduceEq, decide_false, hv1, hfa, ZDW (show tl + 1 + (L.no v).toNat < nw by omega), hf1]
    rw [hmd]
    simp only [ZFf, evD, hss, ZDf]
    exact ⟨q, f, H, ⟨⟨rfl, rfl⟩, fun _ h => by (cases h), fun _ _ => .inl ⟨rfl, rfl⟩, fun h => by omega, fun h => absurd e h⟩, fun a _ => by first | rfl | trivial⟩
 ·have hq := (H.on t).2 (.inr (.inr (.inl e)))
  have hh := H.qs.leave t e hq
  have hg := ZB9.1 hh
  have hf := (H.ah 0 t hg).1 rfl
  have hmd : ZCn nw tl t ta L s = (evD 3, ⟨L.ss, updF L.no t (L.ah t), updF L.ah t 0, updF L.sp t 0⟩, wtS nw ta (clA tl (L.no t)) 0 s) := by
   simp only [ZCn, e, Int.reduceEq, decide_true, decide_false, pick]
  have hss := ZA7 (ss := L.ss) (t := t) (e := 3) (v := 0) (by rw [e]; decide) (by omega)
  obtain ⟨r, rfl⟩ := ZBM hh
  have hnd := List.nodup_cons.1 H.qs.nd
  have hp := H.qs.pop hh e
  simp only [List.tail_cons] at hp
  rw [hmd]
  simp only [ZFf, evD, ha, ZDX hna, hf]
  refine ⟨r, L.no t, ⟨?_, fun u => ?_, fun u => ?_, fun u hu => ?_, fun u v hu hv huv => ?_, ⟨n0, n1, ?_⟩, ?_, fun i u hi => ?_, fun u hu hh2 => ?_⟩, ⟨⟨rfl, rfl⟩, fun h => by omega, fun h => by omega, fun _ => ⟨rfl, .inr ⟨hh, rfl⟩, .inr ⟨rfl, hnd.1⟩⟩, fun _ h => absurd e h⟩, fun a h1 => ZAA _ _ (by omega)⟩
  ·simp only [hss]; exact hp.out hnd.1 (.inl rfl)
  ·simp only [hss]
   by_cases h : u = t
   ·subst h; simp [ZAC, hnd.1]
   ·rw [ZAA _ _ h, ZAA _ _ h, <- H.on u]; simp [h]
  ·simp only [hss]
   by_cases h : u = t
   ·subst h; simp [ZAC]
   ·rw [ZAA _ _ h, ZAA _ _ h]; exact H.sp u
  ·by_cases h : u = t
   ·subst h; simp only [ZAC]; exact ⟨f0, f1, fun e => n2 e.symm⟩
   ·simp only [ZAA _ _ h]
    obtain ⟨m0, m1, m2⟩ := H.no u hu
    exact ⟨m0, m1, fun hc => h (H.ni u t hu ht hc)⟩
  ·by_cases h : u = t <;> by_cases h2 : v = t
   ·rw [h, h2]
   ·subst h; simp only [ZAC, ZAA _ _ h2] at huv
    exact absurd huv.symm (H.no v hv).2.2
   ·subst h2; simp only [ZAC, ZAA _ _ h] at huv
    exact absurd huv (H.no u hu).2.2
   ·simp only [ZAA _ _ h, ZAA _ _ h2] at huv
    exact H.ni u v hu hv huv
  ·rw [ZAC]
  ·rw [ZAA _ _ (show tl ≠ tl + 1 + (L.no t).toNat by omega), H.tail]
   unfold ZFD
   cases r with
   | nil => simp
   | cons a r =>
    rw [List.getLast?_cons_cons]
    cases hl : (a :: r).getLast? with
    | none => simp at hl
    | some u =>
     have h1 : u ≠ t := fun e => hnd.1 (e ▸ List.mem_of_getLast? hl)
     simp only [ZAA _ _ h1]
  ·have h1 : u ≠ t := fun e => hnd.1 (e ▸ ZA8 hi)
   simp only [ZAA _ _ h1]
   obtain ⟨b1, b2⟩ := H.ah (i + 1) u (by simpa using hi)
   refine ⟨fun h0 => ?_, fun j v hj hv => ?_⟩
   ·subst h0; exact b2 0 t rfl rfl
   ·have h2 : v ≠ t := fun e => hnd.1 (e ▸ ZA8 hv)
    rw [ZAA _ _ h2]
    exact b2 (j + 1) v (by omega) (by simpa using hv)
  ·have h1 : u ≠ t := fun e => by
    subst e
    simp only [hss, ZAC] at hh2
    rcases hh2 with h | h
    ·exact hnd.1 h
    ·omega
   simp only [hss, ZAA _ _ h1] at hh2 ⊢
   obtain ⟨m0, m1, m2⟩ := H.no u hu
   have h3 : L.no u ≠ L.no t := fun hc => h1 (H.ni u t hu ht hc)
   rw [ZAA _ _ (show tl + 1 + (L.no u).toNat ≠ tl + 1 + (L.no t).toNat by omega)]
   exact H.fl u hu (hh2.imp (List.mem_cons_of_mem _) id)
 ·have hh := H.qs.hold t (.inr e)
  rcases (show pick (decide (rdV nw tl s = u32w (L.no t))) (4 : Int) 5 = 4 \/ pick (decide (rdV nw tl s = u32w (L.no t))) (4 : Int) 5 = 5 by cases decide (rdV nw tl s = u32w (L.no t)) <;> simp [pick]) with e4 | e4
  all_goals
   have hm : ZCn nw tl t ta L s = (evD (pick (decide (rdV nw tl s = u32w (L.no t))) 4 5), L, rdS nw ta tl s) := by
    simp only [ZCn, e, Int.reduceEq, decide_true, decide_false, pick]
   have hss := ZA7 (ss := L.ss) (t := t) (e := pick (decide (rdV nw tl s = u32w (L.no t))) 4 5) (v := 2) (by rw [e, e4]; decide) (by omega)
   rw [hm]
   simp only [ZFf, evD, ZDf]
   refine ⟨q, f, ⟨?_, fun u => ?_, fun u => ?_, H.no, H.ni, H.fr, H.tail, H.ah, fun u hu hh2 => ?_⟩, ⟨⟨rfl, rfl⟩, fun h => by omega, fun h => by omega, fun h => by omega, fun _ _ => ⟨rfl, rfl, .inr ⟨e, by first | exact .inl e4 | exact .inr e4⟩⟩⟩, fun a _ => by first | rfl | trivial⟩
   ·simp only [hss]; exact H.qs.grant hh (.inl rfl)
   ·simp only [hss]
    by_cases h : u = t
    ·subst h; simp [ZAC, ZBT hh]
    ·rw [ZAA _ _ h]; exact H.on u
   ·simp only [hss]
    by_cases h : u = t
    ·subst h; simp [ZAC, hsp]
    ·rw [ZAA _ _ h]; exact H.sp u
   ·simp only [hss] at hh2
    refine H.fl u hu ?_
    by_cases h : u = t
    ·subst h; exact .inl (ZBT hh)
    ·rw [ZAA _ _ h] at hh2; exact hh2
 all_goals
  have hmd : ZCn nw tl t ta L s = (evD 0, L, s) := by
   simp only [ZCn, e, Int.reduceEq, decide_true, decide_false, pick]
  rw [hmd]
  simp only [ZFf, evD, ZDK (ss := L.ss) (t := t) (e := 0) (by rw [e]; decide)]
  exact ⟨q, f, H, ⟨⟨rfl, rfl⟩, fun h => by omega, fun h => by omega, fun h => by omega, fun _ _ => ⟨rfl, rfl, .inl rfl⟩⟩, fun a _ => by first | rfl | trivial⟩
structure McInv (n tl : Nat) (L : ML) (ws : Nat -> Int) (q : List Nat) : Prop where
 qs : QSt L.ss.st n q
 on : ∀ t, t ∈ q ↔ L.ss.st t = 1 /\ 2 <= L.sp t \/ L.ss.st t = 2 \/ L.ss.st t = 3 \/ L.ss.st t = 4
 sp : ∀ t, 0 <= L.sp t /\ L.sp t <= 4 /\ (L.ss.st t = 0 \/ L.ss.st t = 2 \/ L.ss.st t = 4 -> L.sp t = 0) /\ (L.ss.st t = 3 -> L.sp t <= 3)
 tail : ws tl = ZFD nm 0 q
 em : ∀ t, t < n -> L.ss.st t = 1 -> L.sp t = 1 -> ws (tl + 1 + 2 * t) = 0
 lst : ∀ t, q.getLast? = some t -> ws (tl + 1 + 2 * t) = 0
 nx : ∀ i t u, q[i]? = some t -> q[i + 1]? = some u -> L.ss.st u = 1 /\ (L.sp u = 4 /\ ws (tl + 1 + 2 * t) = nm u \/ L.sp u < 4 /\ ws (tl + 1 + 2 * t) = 0 /\ L.ot u = nm t) /\ (3 <= L.sp u -> ws (tl + 2 + 2 * u) = 1)
 hd : ∀ t, q[0]? = some t -> L.ss.st t = 1 -> L.sp t = 4 /\ ws (tl + 2 + 2 * t) = 0
 ha : ∀ t, L.ss.st t = 3 -> L.sp t = 3 -> ∃ u, q[1]? = some u /\ L.sp u = 4 /\ L.ot t = nm u
theorem ZLx {n nw t ta : Nat} (tl : Int) (L : ML) (s : PS) (ht : t < n) : ZBY n nw tl (t : Int) ta L s = ZHB t (ZBp nw tl t ta L s) := by
 unfold ZBY; rw [ZDu ht]; rfl
theorem ZC6 {t : Nat} {d : Dd} {L : ML} {s : PS} (h : ZCP (L.ss.st t) d.e < 0) : ZHB t (d, L, s) = (d, L, s) := by
 unfold ZHB enB
 simp only [ZDK h, decide_eq_true h, Bool.not_true, pick]
theorem ZFE {t : Nat} {d : Dd} {L : ML} {s : PS} {v : Int} (h : ZCP (L.ss.st t) d.e = v) (hv : 0 <= v) : ZHB t (d, L, s) = (d, ⟨enSS L.ss t d.e, updF L.sp t 0, updF L.ot t 0⟩, s) := by
 unfold ZHB enB
 simp only [h, decide_eq_false (show ¬ v < 0 by omega), Bool.not_false, pick]
theorem ZOS {tl t : Nat} (h : tl + 2 * t <= 100000) : mcA tl (nm t) = ((tl + 1 + 2 * t : Nat) : Int) := by
 unfold mcA nm
 rw [ZBa (x := (t : Int) + 1) (by omega) (by omega), ZBa (x := 2 * ((t : Int) + 1)) (by omega) (by omega), ZBa (x := (tl : Int) + 2 * ((t : Int) + 1)) (by omega) (by omega), ZBa (by omega) (by omega)]
 omega
theorem ZQP {tl t : Nat} (h : tl + 2 * t <= 100000) : i64w (mcA tl (nm t) + 1) = ((tl + 2 + 2 * t : Nat) : Int) := by
 rw [ZOS h, ZBa (by omega) (by omega)]; omega
theorem ZQr {n nw tl t ta : Nat} {L : ML} {s : PS} {q : List Nat} (H : McInv n tl L s.ws q) (ht : t < n) (hn : n <= 64) (hx : tl + 2 * n < nw) (hnw : nw <= 4096) :
  ∃ q', McInv n tl (ZBY n nw tl t ta L s).2.1 (ZBY n nw tl t ta L s).2.2.ws q' /\ Mv (L.ss.st t) t q (ZBY n nw tl t ta L s).1 q' /\ ∀ a, a < tl \/ tl + 2 * n < a -> (ZBY n nw tl t ta L s).2.2.ws a = s.ws a := by
 rw [ZLx tl L s ht]
 have hr := H.qs.rng t
 obtain ⟨sp0, sp1, sp2, sp3⟩ := H.sp t
 have ha := ZOS (tl := tl) (t := t) (by omega)
 have hb := ZQP (tl := tl) (t := t) (by omega)
 have htl : tl < nw := by omega
 have hna : tl + 1 + 2 * t < nw := by omega
 have hnb : tl + 2 + 2 * t < nw := by omega
 rcases (show L.ss.st t = 1 \/ L.ss.st t = 3 \/ L.ss.st t = 4 \/ L.ss.st t = 0 \/ L.ss.st t = 2 by omega) with e | e | e | e | e
 ·rcases (show L.sp t = 0 \/ L.sp t = 1 \/ L.sp t = 2 \/ L.sp t = 3 \/ L.sp t = 4 by omega) with e0 | e0 | e0 | e0 | e0
  ·have hq : t ∉ q := fun h => by have := (H.on t).1 h; omega
   have hmd : ZBp nw tl t ta L s = (evD 0, ⟨L.ss, updF L.sp t 1, L.ot⟩, wtS nw ta (mcA tl (nm t)) 0 s) := by
    simp only [ZBp, e, decide_true, pick, mcLk, e0]
   rw [hmd, ZC6 (by simp only [evD, e]; decide)]
   simp only [evD, ha, ZDX hna]
   refine ⟨q, ⟨H.qs, fun u => ?_, fun u => ?_, ?_, fun u hu h1 h2 => ?_, fun u hu => ?_, fun i u v hu hv => ?_, fun u hu h1 => ?_, fun u h1 h2 => ?_⟩, ⟨⟨rfl, rfl⟩, fun _ h => by (cases h), fun _ _ => .inl ⟨rfl, rfl⟩, fun h => by omega, fun h => absurd e h⟩, fun a h1 => ZAA _ _ (by omega)⟩
   ·by_cases h : u = t
    ·subst h; simp [ZAC, e, hq]
    ·simp only [ZAA _ _ h]; exact H.on u
   ·by_cases h : u = t
    ·subst h; simp [ZAC, e]
    ·simp only [ZAA _ _ h]; exact H.sp u
   ·rw [ZAA _ _ (show tl ≠ tl + 1 + 2 * t by omega)]; exact H.tail
   ·by_cases h : u = t
    ·subst h; rw [ZAC]
    ·simp only [ZAA _ _ h] at h2
     rw [ZAA _ _ (show tl + 1 + 2 * u ≠ tl + 1 + 2 * t by omega)]; exact H.em u hu h1 h2
   ·have h : u ≠ t := fun e => hq (e ▸ List.mem_of_getLast? hu)
    rw [ZAA _ _ (show tl + 1 + 2 * u ≠ tl + 1 + 2 * t by omega)]; exact H.lst u hu
   ·have h : u ≠ t := fun e => hq (e ▸ ZA8 hu)
    have h2 : v ≠ t := fun e => hq (e ▸ ZA8 hv)
    simp only [ZAA _ _ h2]
    rw [ZAA _ _ (show tl + 1 + 2 * u ≠ tl + 1 + 2 * t by omega), ZAA _ _ (show tl + 2 + 2 * v ≠ tl + 1 + 2 * t by omega)]; exact H.nx i u v hu hv
   ·have h : u ≠ t := fun e => hq (e ▸ ZA8 hu)
    simp only [ZAA _ _ h]
    rw [ZAA _ _ (show tl + 2 + 2 * u ≠ tl + 1 + 2 * t by omega)]; exact H.hd u hu h1
   ·by_cases h : u = t
    ·subst h; exact absurd (h1.symm.trans e) (by decide)
    ·simp only [ZAA _ _ h] at h2
     obtain ⟨v, v1, v2, v3⟩ := H.ha u h1 h2
     have h2 : v ≠ t := fun e => hq (e ▸ ZA8 v1)
     exact ⟨v, v1, by simp only [ZAA _ _ h2]; exact v2, v3⟩
  ·have hq : t ∉ q := fun h => by have := (H.on t).1 h; omega
   have hem := H.em t ht e e0
   by_cases hqe : q = []
   ·subst hqe
    have ht0 : s.ws tl = 0 := H.tail
    have hmd : ZBp nw tl t ta L s = (⟨1, true, false, false⟩, ⟨L.ss, updF L.sp t 2, updF L.ot t (rdV nw tl s)⟩, wtS nw ta tl (nm t) s) := by
     simp only [ZBp, e, decide_true, pick, mcLk, e0, Int.reduceEq, decide_false, ZDW htl, ht0]
    have hss := ZA7 (ss := L.ss) (t := t) (e := 1) (v := 2) (by rw [e]; decide) (by omega)
    rw [hmd, ZFE (v := 2) (by simp only [e]; decide) (by omega)]
    simp only [ZDX htl]
    have hqs := (H.qs.enq ht e hq).grant (t := t) rfl (v := 2) (.inl rfl)
    refine ⟨[t], ⟨?_, fun u => ?_, fun u => ?_, ?_, fun u hu h1 h2 => ?_, fun u hu => ?_, fun i u v hu hv => ?_, fun u hu h1 => ?_, fun u h1 h2 => ?_⟩, ⟨⟨rfl, rfl⟩, fun _ _ => ⟨hq, rfl, .inr ⟨rfl, rfl⟩⟩, fun _ h => by (cases h), fun h => by omega, fun h => absurd e h⟩, fun a h1 => ZAA _ _ (by omega)⟩
    ·simp only [hss]; exact hqs
    ·simp only [hss]
     by_cases h : u = t
     ·subst h; simp [ZAC]
     ·simp only [ZAA _ _ h, List.mem_singleton, h, false_iff]
      have := (H.on u)
      simp only [List.not_mem_nil, false_iff] at this; exact this
    ·simp only [hss]
     by_cases h : u = t
     ·subst h; simp [ZAC]
     ·simp only [ZAA _ _ h]; exact H.sp u
    ·rw [ZAC]; rfl
    ·simp only [hss] at h1
     by_cases h : u = t
     ·subst h; rw [ZAC] at h1; omega
     ·simp only [ZAA _ _ h] at h1 h2
      rw [ZAA _ _ (show tl + 1 + 2 * u ≠ tl by omega)]; exact H.em u hu h1 h2
    ·simp only [List.getLast?_singleton, Option.some.injEq] at hu
     subst hu
     rw [ZAA _ _ (show tl + 1 + 2 * t ≠ tl by omega)]; exact hem
    ·simp at hv
    ·simp only [List.getElem?_cons_zero, Option.some.injEq] at hu
     subst hu
     simp only [hss, ZAC] at h1; omega
    ·simp only [hss] at h1
     by_cases h : u = t
     ·subst h; rw [ZAC] at h1; omega
     ·simp only [ZAA _ _ h] at h1
      exact absurd ((H.on u).2 (.inr (.inr (.inl h1)))) (by simp)
   ·obtain ⟨w, hw⟩ : ∃ w, q.getLast? = some w := by
     cases hl : q.getLast? with
     | none => exact absurd (List.getLast?_eq_none_iff.1 hl) hqe
     | some w => exact ⟨w, rfl⟩
    have hwm := List.mem_of_getLast? hw
    have hwn := H.qs.lt w hwm
    have hwl := H.lst w hw
    have ht0 : s.ws tl = nm w := by rw [H.tail]; unfold ZFD; rw [hw]
    have hwz : ¬ nm w = 0 := by unfold nm; omega
    have hmd : ZBp nw tl t ta L s = (⟨0, true, false, false⟩, ⟨L.ss, updF L.sp t 2, updF L.ot t (nm w)⟩, wtS nw ta tl (nm t) s) := by
     simp only [ZBp, e, decide_true, pick, mcLk, e0, Int.reduceEq, decide_false, ZDW htl, ht0, hwz]
    rw [hmd, ZC6 (by simp only [e]; decide)]
    simp only [ZDX htl]
    have hlw : q[q.length - 1]? = some w := by rw [<- List.getLast?_eq_getElem?]; exact hw
    refine ⟨q ++ [t], ⟨H.qs.enq ht e hq, fun u => ?_, fun u => ?_, ?_, fun u hu h1 h2 => ?_, fun u hu => ?_, fun i u v hu hv => ?_, fun u hu h1 => ?_, fun u h1 h2 => ?_⟩, ⟨⟨rfl, rfl⟩, fun _ _ => ⟨hq, rfl, .inl rfl⟩, fun _ h => by (cases h), fun h => by omega, fun h => absurd e h⟩, fun a h1 => ZAA _ _ (by omega)⟩
    ·simp only [List.mem_append, List.mem_singleton]
     by_cases h : u = t
     ·subst h; simp [ZAC, e]
     ·simp only [ZAA _ _ h, h, or_false]; exact H.on u
    ·by_cases h : u = t
     ·subst h; simp [ZAC, e]
     ·simp only [ZAA _ _ h]; exact H.sp u
    ·rw [ZAC, ZHe]
    ·by_cases h : u = t
     ·subst h; simp only [ZAC] at h2; omega
     ·simp only [ZAA _ _ h] at h2
      rw [ZAA _ _ (show tl + 1 + 2 * u ≠ tl by omega)]; exact H.em u hu h1 h2
    ·simp only [List.getLast?_append, List.getLast?_singleton, Option.or_some, Option.some.injEq, Option.getD_some, Option.some_or] at hu
     subst hu
     rw [ZAA _ _ (show tl + 1 + 2 * t ≠ tl by omega)]; exact hem
    ·rw [ZAA _ _ (show tl + 1 + 2 * u ≠ tl by omega), ZAA _ _ (show tl + 2 + 2 * v ≠ tl by omega)]
     rcases ZGD hv with h | ⟨h, rfl⟩
     ·have h1 : v ≠ t := fun e => hq (e ▸ ZA8 h)
      have hu2 : q[i]? = some u := by
       rw [List.getElem?_append_left (by have := ZHd h; omega)] at hu; exact hu
      simp only [ZAA _ _ h1]
      exact H.nx i u v hu2 h
     ·rw [List.getElem?_append_left (by omega)] at hu
      rw [show q.length - 1 = i by omega, hu] at hlw
      cases hlw
      simp only [ZAC]
      exact ⟨e, .inr ⟨by omega, hwl, trivial⟩, fun h => by omega⟩
    ·rw [ZAA _ _ (show tl + 2 + 2 * u ≠ tl by omega)]
     rw [List.getElem?_append_left (by cases q with | nil => exact absurd rfl hqe | cons => simp)] at hu
     have h : u ≠ t := fun e => hq (e ▸ ZA8 hu)
     simp only [ZAA _ _ h]
     exact H.hd u hu h1
    ·by_cases h : u = t
     ·subst h; exact absurd (h1.symm.trans e) (by decide)
     ·simp only [ZAA _ _ h] at h2 ⊢
      obtain ⟨v, v1, v2, v3⟩ := H.ha u h1 h2
      have h2 : v ≠ t := fun e => hq (e ▸ ZA8 v1)
      exact ⟨v, by rw [List.getElem?_append_left (ZHd v1)]; exact v1, by simp only [ZAA _ _ h2]; exact v2, v3⟩
  ·have hin : t ∈ q := (H.on t).2 (.inl ⟨e, by omega⟩)
   have hnh : ¬ q[0]? = some t := fun h => by have := (H.hd t h e).1; omega
   have hmd : ZBp nw tl t ta L s = (evD 0, ⟨L.ss, updF L.sp t 3, L.ot⟩, wtS nw ta (i64w (mcA tl (nm t) + 1)) 1 s) := by
    simp only [ZBp, e, decide_true, pick, mcLk, e0, Int.reduceEq, decide_false]
   rw [hmd, ZC6 (by simp only [evD, e]; decide)]
   simp only [evD, hb, ZDX hnb]
   refine ⟨q, ⟨H.qs, fun u => ?_, fun u => ?_, ?_, fun u hu h1 h2 => ?_, fun u hu => ?_, fun i u v hu hv => ?_, fun u hu h1 => ?_, fun u h1 h2 => ?_⟩, ⟨⟨rfl, rfl⟩, fun _ h => by (cases h), fun _ _ => .inl ⟨rfl, rfl⟩, fun h => by omega, fun h => absurd e h⟩, fun a h1 => ZAA _ _ (by omega)⟩
   ·by_cases h : u = t
    ·subst h; simp [ZAC, e, hin]
    ·simp only [ZAA _ _ h]; exact H.on u
   ·by_cases h : u = t
    ·subst h; simp [ZAC, e]
    ·simp only [ZAA _ _ h]; exact H.sp u
   ·rw [ZAA _ _ (show tl ≠ tl + 2 + 2 * t by omega)]; exact H.tail
   ·rw [ZAA _ _ (show tl + 1 + 2 * u ≠ tl + 2 + 2 * t by omega)]
    by_cases h : u = t
    ·subst h; simp only [ZAC] at h2; omega
    ·simp only [ZAA _ _ h] at h2; exact H.em u hu h1 h2
   ·rw [ZAA _ _ (show tl + 1 + 2 * u ≠ tl + 2 + 2 * t by omega)]; exact H.lst u hu
   ·rw [ZAA _ _ (show tl + 1 + 2 * u ≠ tl + 2 + 2 * t by omega)]
    obtain ⟨x1, x2, x3⟩ := H.nx i u v hu hv
    by_cases h : v = t
    ·subst h
     simp only [ZAC]
     refine ⟨x1, ?_, fun _ => trivial⟩
     rcases x2 with x2 | x2
     ·omega
     ·exact .inr ⟨by omega, x2.2⟩
    ·simp only [ZAA _ _ h]
     rw [ZAA _ _ (show tl + 2 + 2 * v ≠ tl + 2 + 2 * t by omega)]
     exact ⟨x1, x2, x3⟩
   ·have h : u ≠ t := fun h => hnh (h ▸ hu)
    simp only [ZAA _ _ h]
    rw [ZAA _ _ (show tl + 2 + 2 * u ≠ tl + 2 + 2 * t by omega)]; exact H.hd u hu h1
   ·by_cases h : u = t
    ·subst h; exact absurd (h1.symm.trans e) (by decide)
    ·simp only [ZAA _ _ h] at h2
     obtain ⟨v, v1, v2, v3⟩ := H.ha u h1 h2
     have h2 : v ≠ t := fun h => by subst h; omega
     exact ⟨v, v1, by simp only [ZAA _ _ h2]; exact v2, v3⟩
  ·have hin : t ∈ q := (H.on t).2 (.inl ⟨e, by omega⟩)
   have hnh : ¬ q[0]? = some t := fun h => by have := (H.hd t h e).1; omega
   obtain ⟨k, hk, hg⟩ := ZGd hin
   obtain ⟨j, rfl⟩ : ∃ j, k = j + 1 := ⟨k - 1, by have : k ≠ 0 := fun h => hnh (h ▸ hg); omega⟩
   obtain ⟨p, hp⟩ : ∃ p, q[j]? = some p := ⟨q[j]'(by omega), List.getElem?_eq_getElem (by omega)⟩
   have hpn := H.qs.lt p (ZA8 hp)
   have hpa := ZOS (tl := tl) (t := p) (by omega)
   obtain ⟨x1, x2, x3⟩ := H.nx j p t hp hg
   have hot : L.ot t = nm p := by
    rcases x2 with x2 | x2
    ·omega
    ·exact x2.2.2
   have hpw : tl + 1 + 2 * p < nw := by omega
   have hmd : ZBp nw tl t ta L s = (evD 0, ⟨L.ss, updF L.sp t 4, L.ot⟩, wtS nw ta (mcA tl (L.ot t)) (nm t) s) := by
    simp only [ZBp, e, decide_true, pick, mcLk, e0, Int.reduceEq, decide_false]
   rw [hmd, ZC6 (by simp only [evD, e]; decide)]
   simp only [evD, hot, hpa, ZDX hpw]
   refine ⟨q, ⟨H.qs, fun u => ?_, fun u => ?_, ?_, fun u hu h1 h2 => ?_, fun u hu => ?_, fun i u v hu hv => ?_, fun u hu h1 => ?_, fun u h1 h2 => ?_⟩, ⟨⟨rfl, rfl⟩, fun _ h => by (cases h), fun _ _ => .inl ⟨rfl, rfl⟩, fun h => by omega, fun h => absurd e h⟩, fun a h1 => ZAA _ _ (by omega)⟩
   ·by_cases h : u = t
    ·subst h; simp [ZAC, e, hin]
    ·simp only [ZAA _ _ h]; exact H.on u
   ·by_cases h : u = t
    ·subst h; simp [ZAC, e]
    ·simp only [ZAA _ _ h]; exact H.sp u
   ·rw [ZAA _ _ (show tl ≠ tl + 1 + 2 * p by omega)]; exact H.tail
   ·by_cases h : u = t
    ·subst h; simp only [ZAC] at h2; omega
    ·simp only [ZAA _ _ h] at h2
     have h3 : u ≠ p := fun h3 => by
      subst h3
      have := (H.on u).1 (ZA8 hp)
      have : L.ss.st u = 1 := h1
      omega
     rw [ZAA _ _ (show tl + 1 + 2 * u ≠ tl + 1 + 2 * p by omega)]; exact H.em u hu h1 h2
   ·have h3 : u ≠ p := fun h3 => by
     subst h3
     rw [List.getLast?_eq_getElem?] at hu
     have := ZCQ H.qs.nd hu hp
     omega
    rw [ZAA _ _ (show tl + 1 + 2 * u ≠ tl + 1 + 2 * p by omega)]; exact H.lst u hu
   ·rw [ZAA _ _ (show tl + 2 + 2 * v ≠ tl + 1 + 2 * p by omega)]
    obtain ⟨y1, y2, y3⟩ := H.nx i u v hu hv
    by_cases h : v = t
    ·subst h
     have := ZCQ H.qs.nd hv hg
     obtain rfl : i = j := by omega
     rw [hp] at hu
     cases hu
     simp only [ZAC]
     exact ⟨y1, .inl ⟨trivial, trivial⟩, fun _ => y3 (by omega)⟩
    ·simp only [ZAA _ _ h]
     have h3 : u ≠ p := fun h3 => by
      subst h3
      have := ZCQ H.qs.nd hu hp
      subst this
      rw [hg] at hv; cases hv; exact h rfl
     rw [ZAA _ _ (show tl + 1 + 2 * u ≠ tl + 1 + 2 * p by omega)]
     exact ⟨y1, y2, y3⟩
   ·have h : u ≠ t := fun h => hnh (h ▸ hu)
    simp only [ZAA _ _ h]
    rw [ZAA _ _ (show tl + 2 + 2 * u ≠ tl + 1 + 2 * p by omega)]; exact H.hd u hu h1
   ·by_cases h : u = t
    ·subst h; exact absurd (h1.symm.trans e) (by decide)
    ·simp only [ZAA _ _ h] at h2
     obtain ⟨v, v1, v2, v3⟩ := H.ha u h1 h2
     have h2 : v ≠ t := fun h => by subst h; omega
     exact ⟨v, v1, by simp only [ZAA _ _ h2]; exact v2, v3⟩
  ·have hin : t ∈ q := (H.on t).2 (.inl ⟨e, by omega⟩)
   obtain ⟨k, hk, hg⟩ := ZGd hin
   have hself : updF L.sp t 4 = L.sp := by
    funext u
    by_cases h : u = t
    ·subst h; rw [ZAC, e0]
    ·rw [ZAA _ _ h]
   by_cases hz : s.ws (tl + 2 + 2 * t) = 0
   ·have hk0 : k = 0 := by
     cases k with
     | zero => rfl
     | succ j =>
      obtain ⟨p, hp⟩ : ∃ p, q[j]? = some p := ⟨q[j]'(by omega), List.getElem?_eq_getElem (by omega)⟩
      have := (H.nx j p t hp hg).2.2 (by omega)
      omega
    subst hk0
    have hh : q.head? = some t := ZB9.2 hg
    have hmd : ZBp nw tl t ta L s = (evD 1, L, rdS nw ta (i64w (mcA tl (nm t) + 1)) s) := by
     simp only [ZBp, e, decide_true, pick, mcLk, e0, Int.reduceEq, decide_false, hb, ZDW hnb, hz, hself]
    have hss := ZA7 (ss := L.ss) (t := t) (e := 1) (v := 2) (by rw [e]; decide) (by omega)
    rw [hmd, ZFE (v := 2) (by simp only [evD, e]; decide) (by omega)]
    simp only [evD, ZDf]
    refine ⟨q, ⟨?_, fun u => ?_, fun u => ?_, H.tail, fun u hu h1 h2 => ?_, H.lst, fun i u v hu hv => ?_, fun u hu h1 => ?_, fun u h1 h2 => ?_⟩, ⟨⟨rfl, rfl⟩, fun _ h => by (cases h), fun _ _ => .inr (.inl ⟨rfl, hh, rfl⟩), fun h => by omega, fun h => absurd e h⟩, fun a h1 => by first | rfl | trivial⟩
    ·simp only [hss]; exact H.qs.grant hh (.inl rfl)
    ·simp only [hss]
     by_cases h : u = t
     ·subst h; simp [ZAC, hin]
     ·simp only [ZAA _ _ h]; exact H.on u
    ·simp only [hss]
     by_cases h : u = t
     ·subst h; simp [ZAC]
     ·simp only [ZAA _ _ h]; exact H.sp u
    ·simp only [hss] at h1
     by_cases h : u = t
     ·subst h; rw [ZAC] at h1; omega
     ·simp only [ZAA _ _ h] at h1 h2; exact H.em u hu h1 h2
    ·have h : v ≠ t := fun h => by subst h; have := ZCQ H.qs.nd hv hg; omega
     simp only [hss, ZAA _ _ h]; exact H.nx i u v hu hv
    ·rw [hg] at hu; cases hu
     simp only [hss, ZAC] at h1; omega
    ·simp only [hss] at h1
     by_cases h : u = t
     ·subst h; rw [ZAC] at h1; omega
     ·simp only [ZAA _ _ h] at h1
      have := H.qs.leave u h1 ((H.on u).2 (.inr (.inr (.inl h1))))
      rw [hh] at this; cases this; exact absurd rfl h
   ·have hmd : ZBp nw tl t ta L s = (evD 0, L, rdS nw ta (i64w (mcA tl (nm t) + 1)) s) := by
     simp only [ZBp, e, decide_true, pick, mcLk, e0, Int.reduceEq, decide_false, hb, ZDW hnb, hz, hself]
    rw [hmd, ZC6 (by simp only [evD, e]; decide)]
    simp only [evD, ZDf]
    exact ⟨q, H, ⟨⟨rfl, rfl⟩, fun _ h => by (cases h), fun _ _ => .inl ⟨rfl, rfl⟩, fun h => by omega, fun h => absurd e h⟩, fun a h1 => by first | rfl | trivial⟩
 ·have hq := (H.on t).2 (.inr (.inr (.inl e)))
  have hh := H.qs.leave t e hq
  have hg := ZB9.1 hh
  have htz : ¬ nm t = 0 := by unfold nm; omega
  -- a step of this kind changes nothing but its own place
  have same : ∀ (x : Int) (o : Nat -> Int), (∀ u, u ≠ t -> o u = L.ot u) -> 0 <= x -> x <= 3 -> (x = 3 -> ∃ u, q[1]? = some u /\ L.sp u = 4 /\ o t = nm u) -> McInv n tl ⟨L.ss, updF L.sp t x, o⟩ s.ws q := fun x o ho x0 x1 x3 => by
   refine ⟨H.qs, fun u => ?_, fun u => ?_, H.tail, fun u hu h1 h2 => ?_, H.lst, fun i u v hu hv => ?_, fun u hu h1 => ?_, fun u h1 h2 => ?_⟩
   ·by_cases h : u = t
    ·subst h; simp [ZAC, e, hq]
    ·simp only [ZAA _ _ h]; exact H.on u
   ·by_cases h : u = t
    ·subst h; simp only [ZAC, e]; refine ⟨x0, by omega, by simp, fun _ => x1⟩
    ·simp only [ZAA _ _ h]; exact H.sp u
   ·by_cases h : u = t
    ·subst h; exact absurd (h1.symm.trans e) (by decide)
    ·simp only [ZAA _ _ h] at h2; exact H.em u hu h1 h2
   ·have h : v ≠ t := fun h => by subst h; have := ZCQ H.qs.nd hv hg; omega
    simp only [ZAA _ _ h, ho v h]; exact H.nx i u v hu hv
   ·rw [hg] at hu; cases hu
    exact absurd (h1.symm.trans e) (by decide)
   ·by_cases h : u = t
    ·subst h
     simp only [ZAC] at h2
     obtain ⟨v, v1, v2, v3⟩ := x3 h2
     have h3 : v ≠ u := fun h3 => by subst h3; have := ZCQ H.qs.nd v1 hg; omega
     exact ⟨v, v1, by simp only [ZAA _ _ h3]; exact v2, v3⟩
    ·have := H.qs.leave u h1 ((H.on u).2 (.inr (.inr (.inl h1))))
     rw [hh] at this; cases this; exact absurd rfl h
  rcases (show (L.sp t = 0 \/ L.sp t = 2) \/ L.sp t = 1 \/ L.sp t = 3 by have := sp3 e; omega) with e0 | e0 | e0
  ·have hor : (decide (L.sp t = 0) || decide (L.sp t = 2)) = true := by rcases e0 with h | h <;> simp [h]
   have hmd : ZBp nw tl t ta L s = (evD 0, ⟨L.ss, pick (decide (s.ws (tl + 1 + 2 * t) = 0)) (pick (decide (L.sp t = 0)) (updF L.sp t 1) L.sp) (updF L.sp t 3), updF L.ot t (s.ws (tl + 1 + 2 * t))⟩, rdS nw ta (mcA tl (nm t)) s) := by
    simp only [ZBp, e, Int.reduceEq, decide_true, decide_false, pick, mcUl, hor, ha, ZDW hna]
   have hmv : Mv (L.ss.st t) t q (evD 0) q := ⟨⟨rfl, rfl⟩, fun h => by omega, fun h => by omega, fun _ => ⟨rfl, .inl rfl, .inl rfl⟩, fun _ h => absurd e h⟩
   rw [hmd, ZC6 (by simp only [evD, e]; decide)]
   simp only [ZDf]
   by_cases hz : s.ws (tl + 1 + 2 * t) = 0
   ·simp only [hz, decide_true, pick]
    rcases e0 with h | h
    ·simp only [h, decide_true]
     exact ⟨q, same 1 _ (fun u hu => ZAA _ _ hu) (by omega) (by omega) (by omega), hmv, fun a h1 => by first | rfl | trivial⟩
    ·have hself : L.sp = updF L.sp t 2 := by
      funext u
      by_cases hu : u = t
      ·subst hu; rw [ZAC, h]
      ·rw [ZAA _ _ hu]
     simp only [h, Int.reduceEq, decide_false]
     rw [hself]
     exact ⟨q, same 2 _ (fun u hu => ZAA _ _ hu) (by omega) (by omega) (by omega), hmv, fun a h1 => by first | rfl | trivial⟩
   ·simp only [hz, decide_false, pick]
    refine ⟨q, same 3 _ (fun u hu => ZAA _ _ hu) (by omega) (by omega) (fun _ => ?_), hmv, fun a h1 => by first | rfl | trivial⟩
    rw [ZAC]
    cases hq1 : q[1]? with
    | none =>
     have hl : q.length = 1 := by
      have h1 := ZHd hg
      have h2 := List.getElem?_eq_none_iff.1 hq1
      omega
     have := H.lst t (by rw [List.getLast?_eq_getElem?, hl]; exact hg)
     exact absurd this hz
    | some u =>
     obtain ⟨y1, y2, y3⟩ := H.nx 0 t u hg hq1
     rcases y2 with y2 | y2
     ·exact ⟨u, rfl, y2.1, y2.2⟩
     ·exact absurd y2.2.1 hz
  ·have hmd : ZBp nw tl t ta L s = (evD (pick (decide (s.ws tl = nm t)) 3 0), ⟨L.ss, pick (decide (s.ws tl = nm t)) L.sp (updF L.sp t 2), L.ot⟩, casS nw ta tl (nm t) 0 s) := by
    simp only [ZBp, e, Int.reduceEq, decide_true, decide_false, pick, mcUl, e0, ZJi htl, Bool.or_self]
   rw [hmd]
   by_cases hz : s.ws tl = nm t
   ·simp only [hz, decide_true, pick]
    have hl : q.getLast? = some t := by
     have h1 := H.tail
     rw [hz] at h1
     unfold ZFD at h1
     cases h2 : q.getLast? with
     | none => rw [h2] at h1; exact absurd h1 htz
     | some u => rw [h2] at h1; simp only [nm] at h1; congr 1; omega
    have hl1 : q = [t] := by
     obtain ⟨r, rfl⟩ := ZBM hh
     cases r with
     | nil => rfl
     | cons a r =>
      rw [List.getLast?_cons_cons] at hl
      exact absurd (List.mem_of_getLast? hl) (List.nodup_cons.1 H.qs.nd).1
    subst hl1
    have hss := ZA7 (ss := L.ss) (t := t) (e := 3) (v := 0) (by rw [e]; decide) (by omega)
    have hp := H.qs.pop hh e
    simp only [List.tail_cons] at hp
    rw [ZFE (v := 0) (by simp only [evD, e]; decide) (by omega)]
    simp only [evD, ZHc htl, hz, decide_true, pick]
    refine ⟨[], ⟨?_, fun u => ?_, fun u => ?_, ?_, fun u hu h1 h2 => ?_, by simp, by simp, by simp, fun u h1 h2 => ?_⟩, ⟨⟨rfl, rfl⟩, fun h => by omega, fun h => by omega, fun _ => ⟨rfl, .inr ⟨hh, rfl⟩, .inr ⟨rfl, by simp⟩⟩, fun _ h => absurd e h⟩, fun a h1 => ZAA _ _ (by omega)⟩
    ·simp only [hss]; exact hp.out (by simp) (.inl rfl)
    ·simp only [hss]
     by_cases h : u = t
     ·subst h; simp [ZAC]
     ·simp only [ZAA _ _ h, List.not_mem_nil, false_iff]
      have := H.on u
      simp only [List.mem_singleton, h, false_iff] at this; exact this
    ·simp only [hss]
     by_cases h : u = t
     ·subst h; simp [ZAC]
     ·simp only [ZAA _ _ h]; exact H.sp u
    ·rw [ZAC]; rfl
    ·simp only [hss] at h1
     by_cases h : u = t
     ·subst h; rw [ZAC] at h1; omega
     ·simp only [ZAA _ _ h] at h1 h2
      rw [ZAA _ _ (show tl + 1 + 2 * u ≠ tl by omega)]; exact H.em u hu h1 h2
    ·simp only [hss] at h1
     by_cases h : u = t
     ·subst h; rw [ZAC] at h1; omega
     ·simp only [ZAA _ _ h] at h1
      have := (H.on u).2 (.inr (.inr (.inl h1)))
      simp only [List.mem_singleton] at this; exact absurd this h
   ·simp only [hz, decide_false, pick]
    rw [ZC6 (by simp only [evD, e]; decide)]
    simp only [ZHc htl, hz, decide_false, pick]
    exact ⟨q, same 2 _ (fun u hu => rfl) (by omega) (by omega) (by omega), ⟨⟨rfl, rfl⟩, fun h => by omega, fun h => by omega, fun _ => ⟨rfl, .inl rfl, .inl rfl⟩, fun _ h => absurd e h⟩, fun a h1 => by first | rfl | trivial⟩
  ·obtain ⟨v, v1, v2, v3⟩ := H.ha t e e0
   have hvn := H.qs.lt v (ZA8 v1)
   have hvb := ZQP (tl := tl) (t := v) (by omega)
   have hvw : tl + 2 + 2 * v < nw := by omega
   have hvt : v ≠ t := fun h => by subst h; have := ZCQ H.qs.nd v1 hg; omega
   obtain ⟨y1, y2, y3⟩ := H.nx 0 t v hg v1
   have hmd : ZBp nw tl t ta L s = (evD 3, L, wtS nw ta (i64w (mcA tl (L.ot t) + 1)) 0 s) := by
    simp only [ZBp, e, Int.reduceEq, decide_true, decide_false, pick, mcUl, e0, Bool.or_self]
   have hss := ZA7 (ss := L.ss) (t := t) (e := 3) (v := 0) (by rw [e]; decide) (by omega)
   obtain ⟨r, rfl⟩ := ZBM hh
   have hnd := List.nodup_cons.1 H.qs.nd
   have hp := H.qs.pop hh e
   simp only [List.tail_cons] at hp
   have hv0 : r[0]? = some v := by simpa using v1
   rw [hmd, ZFE (v := 0) (by simp only [evD, e]; decide) (by omega)]
   simp only [evD, v3, hvb, ZDX hvw]
   refine ⟨r, ⟨?_, fun u => ?_, fun u => ?_, ?_, fun u hu h1 h2 => ?_, fun u hu => ?_, fun i u w hu hw => ?_, fun u hu h1 => ?_, fun u h1 h2 => ?_⟩, ⟨⟨rfl, rfl⟩, fun h => by omega, fun h => by omega, fun _ => ⟨rfl, .inr ⟨hh, rfl⟩, .inr ⟨rfl, hnd.1⟩⟩, fun _ h => absurd e h⟩, fun a h1 => ZAA _ _ (by omega)⟩
   ·simp only [hss]; exact hp.out hnd.1 (.inl rfl)
   ·simp only [hss]
    by_cases h : u = t
    ·subst h; simp [ZAC, hnd.1]
    ·rw [ZAA _ _ h, ZAA _ _ h, <- H.on u]; simp [h]
   ·simp only [hss]
    by_cases h : u = t
    ·subst h; simp [ZAC]
    ·rw [ZAA _ _ h, ZAA _ _ h]; exact H.sp u
   ·rw [ZAA _ _ (show tl ≠ tl + 2 + 2 * v by omega), H.tail]
    unfold ZFD
    cases r with
    | nil => simp at hv0
    | cons a r => rw [List.getLast?_cons_cons]
   ·simp only [hss] at h1
    by_cases h : u = t
    ·subst h; rw [ZAC] at h1; omega
    ·simp only [ZAA _ _ h] at h1 h2
     rw [ZAA _ _ (show tl + 1 + 2 * u ≠ tl + 2 + 2 * v by omega)]; exact H.em u hu h1 h2
   ·rw [ZAA _ _ (show tl + 1 + 2 * u ≠ tl + 2 + 2 * v by omega)]
    refine H.lst u ?_
    cases r with
    | nil => simp at hv0
    | cons a r => rw [List.getLast?_cons_cons]; exact hu
   ·have h1 : w ≠ t := fun e => hnd.1 (e ▸ ZA8 hw)
    have h2 : w ≠ v := fun h2 => by subst h2; have := ZCQ hnd.2 hw hv0; omega
    simp only [hss, ZAA _ _ h1]
    rw [ZAA _ _ (show tl + 1 + 2 * u ≠ tl + 2 + 2 * v by omega), ZAA _ _ (show tl + 2 + 2 * w ≠ tl + 2 + 2 * v by omega)]
    exact H.nx (i + 1) u w (by simpa using hu) (by simpa using hw)
   ·rw [hv0] at hu; cases hu
    simp only [ZAA _ _ hvt, ZAC]
    exact ⟨v2, trivial⟩
   ·simp only [hss] at h1
    by_cases h : u = t
    ·subst h; rw [ZAC] at h1; omega
    ·simp only [ZAA _ _ h] at h1
     have := H.qs.leave u h1 ((H.on u).2 (.inr (.inr (.inl h1))))
     rw [hh] at this; cases this; exact absurd rfl h
 ·have hh := H.qs.hold t (.inr e)
  have hg := ZB9.1 hh
  have e0 := sp2 (.inr (.inr e))
  rcases (show pick (decide (rdV nw (mcA tl (nm t)) s = 0)) (4 : Int) 5 = 4 \/ pick (decide (rdV nw (mcA tl (nm t)) s = 0)) (4 : Int) 5 = 5 by cases decide (rdV nw (mcA tl (nm t)) s = 0) <;> simp [pick]) with e4 | e4
  all_goals
   have hm : ZBp nw tl t ta L s = (evD (pick (decide (rdV nw (mcA tl (nm t)) s = 0)) 4 5), L, rdS nw ta (mcA tl (nm t)) s) := by
    simp only [ZBp, e, Int.reduceEq, decide_true, decide_false, pick]
   have hss := ZA7 (ss := L.ss) (t := t) (e := pick (decide (rdV nw (mcA tl (nm t)) s = 0)) 4 5) (v := 2) (by rw [e, e4]; decide) (by omega)
   rw [hm, ZFE (v := 2) (by simp only [evD, e, e4]; decide) (by omega)]
   simp only [evD, ZDf]
   refine ⟨q, ⟨?_, fun u => ?_, fun u => ?_, H.tail, fun u hu h1 h2 => ?_, H.lst, fun i u v hu hv => ?_, fun u hu h1 => ?_, fun u h1 h2 => ?_⟩, ⟨⟨rfl, rfl⟩, fun h => by omega, fun h => by omega, fun h => by omega, fun _ _ => ⟨rfl, rfl, .inr ⟨e, by first | exact .inl e4 | exact .inr e4⟩⟩⟩, fun a h1 => by first | rfl | trivial⟩
   ·simp only [hss]; exact H.qs.grant hh (.inl rfl)
   ·simp only [hss]
    by_cases h : u = t
    ·subst h; simp [ZAC, ZBT hh]
    ·simp only [ZAA _ _ h]; exact H.on u
   ·simp only [hss]
    by_cases h : u = t
    ·subst h; simp [ZAC]
    ·simp only [ZAA _ _ h]; exact H.sp u
   ·simp only [hss] at h1
    by_cases h : u = t
    ·subst h; rw [ZAC] at h1; omega
    ·simp only [ZAA _ _ h] at h1 h2; exact H.em u hu h1 h2
   ·have h : v ≠ t := fun h => by subst h; have := ZCQ H.qs.nd hv hg; omega
    simp only [hss, ZAA _ _ h]; exact H.nx i u v hu hv
   ·rw [hg] at hu; cases hu
    simp only [hss, ZAC] at h1; omega
   ·simp only [hss] at h1
    by_cases h : u = t
    ·subst h; rw [ZAC] at h1; omega
    ·simp only [ZAA _ _ h] at h1
     have := H.qs.leave u h1 ((H.on u).2 (.inr (.inr (.inl h1))))
     rw [hh] at this; cases this; exact absurd rfl h
 all_goals
  have hmd : ZBp nw tl t ta L s = (evD 0, L, s) := by
   simp only [ZBp, e, Int.reduceEq, decide_true, decide_false, pick]
  rw [hmd, ZC6 (by simp only [evD, e]; decide)]
  exact ⟨q, H, ⟨⟨rfl, rfl⟩, fun h => by omega, fun h => by omega, fun h => by omega, fun _ _ => ⟨rfl, rfl, .inl rfl⟩⟩, fun a h1 => rfl⟩
def aS (tl x : Nat) : Nat := tl + 3 * x - 2
def aN (tl x : Nat) : Nat := tl + 3 * x - 1
def aO (tl x : Nat) : Nat := tl + 3 * x
abbrev PQ := List (Nat × Option Nat)
def nodes (P : PQ) : List Nat := P.map fun p => p.1
def ctxs (P : PQ) : List Nat := P.filterMap fun p => p.2
def actv (L : AL) (c : Nat) : Prop := L.ss.st c = 1 /\ 1 <= L.sp c \/ L.ss.st c = 2 \/ L.ss.st c = 3
def inP (L : AL) (c : Nat) : Prop := L.ss.st c = 1 /\ 5 <= L.sp c \/ L.ss.st c = 2 \/ L.ss.st c = 3 /\ L.sp c <= 4
def ZAf (P : PQ) : Int := match P.getLast? with | some p => p.1 | none => 0
structure AbInv (n E tl : Nat) (L : AL) (ws : Nat -> Int) (P : PQ) : Prop where
 rng : ∀ t, 0 <= L.ss.st t /\ L.ss.st t <= 3
 sp : ∀ t, 0 <= L.sp t /\ L.sp t <= 7 /\ (L.ss.st t = 0 \/ L.ss.st t = 2 -> L.sp t = 0) /\ (L.ss.st t = 3 -> L.sp t <= 5)
 nd : (nodes P).Nodup
 rg : ∀ p, p ∈ P -> 1 <= p.1 /\ p.1 <= n * E /\ ws (aO tl p.1) = 1
 tg : ∀ (i x c : Nat), P[i]? = some (x, some c) -> c < n /\ L.no c = (x : Int) /\ (i = 0 -> L.ss.st c = 2 \/ L.ss.st c = 3 /\ L.sp c <= 4 \/ L.ss.st c = 1 /\ 6 <= L.sp c /\ ws (aS tl x) = 1) /\ (i ≠ 0 -> L.ss.st c = 1 /\ 5 <= L.sp c /\ ws (aS tl x) = 0)
 tn : ∀ (i x : Nat), P[i]? = some (x, none) -> i ≠ 0 /\ ws (aS tl x) = 2
 inn : ∀ c, inP L c -> ∃ x : Nat, (x, some c) ∈ P
 pos : ∀ c, actv L c -> c < n /\ ∃ x : Nat, L.no c = (x : Int) /\ 1 <= x /\ x <= n * E
 dst : ∀ c d, actv L c -> actv L d -> L.no c = L.no d -> c = d
 own : ∀ c (x : Nat), L.no c = (x : Int) -> L.ss.st c = 1 -> 1 <= L.sp c -> L.sp c <= 4 -> c * E < x /\ x <= c * E + E /\ x ∉ nodes P /\ (2 <= L.sp c -> ws (aO tl x) = 1) /\ (3 <= L.sp c -> ws (aS tl x) = 0) /\ (4 <= L.sp c -> ws (aN tl x) = 0)
 fin : ∀ c (x : Nat), L.no c = (x : Int) -> L.ss.st c = 3 -> L.sp c = 5 -> x ∉ nodes P /\ ws (aO tl x) = 1
 tail : ws tl = ZAf P
 nx : ∀ (i x : Nat) (a : Option Nat) (y : Nat) (b : Option Nat), P[i]? = some (x, a) -> P[i + 1]? = some (y, b) -> (∃ c, b = some c /\ L.sp c = 5 /\ ws (aN tl x) = 0 /\ L.ot c = (x : Int)) \/ ((∀ c, b = some c -> 6 <= L.sp c) /\ ws (aN tl x) = (y : Int))
 lst : ∀ p, P.getLast? = some p -> ws (aN tl p.1) = 0
 ha : ∀ c, L.ss.st c = 3 -> L.sp c = 3 \/ L.sp c = 4 -> ∃ (y : Nat) (b : Option Nat), P[1]? = some (y, b) /\ L.ot c = (y : Int) /\ (L.sp c = 4 -> b = none) /\ ∀ d, b = some d -> 6 <= L.sp d
theorem ZD1 {P : PQ} {i : Nat} {p : Nat × Option Nat} (h : P[i]? = some p) : (nodes P)[i]? = some p.1 := by
 unfold nodes; rw [List.getElem?_map, h]; rfl
theorem ZBb {P : PQ} {p : Nat × Option Nat} (h : p ∈ P) : p.1 ∈ nodes P := List.mem_map_of_mem h
theorem ZOT {P : PQ} {x : Nat} (h : x ∈ nodes P) : ∃ b, (x, b) ∈ P := by
 obtain ⟨p, hp, rfl⟩ := List.mem_map.1 h
 exact ⟨p.2, hp⟩
theorem ZAK {P : PQ} {i : Nat} {p : Nat × Option Nat} (h : P[i]? = some p) : p ∈ P := List.mem_of_getElem? h
theorem ZFF {P : PQ} {p : Nat × Option Nat} (h : p ∈ P) : ∃ i, i < P.length /\ P[i]? = some p := by
 obtain ⟨i, hi, e⟩ := List.mem_iff_getElem.1 h
 exact ⟨i, hi, by rw [List.getElem?_eq_getElem hi, e]⟩
theorem ZDg {P : PQ} {i : Nat} {p : Nat × Option Nat} (h : P[i]? = some p) : i < P.length := (List.getElem?_eq_some_iff.1 h).1
theorem ZFG {P : PQ} {i : Nat} {p r : Nat × Option Nat} (h : (P ++ [p])[i]? = some r) : P[i]? = some r \/ i = P.length /\ r = p := by
 by_cases hi : i < P.length
 ·rw [List.getElem?_append_left hi] at h; exact .inl h
 ·rw [List.getElem?_append_right (by omega)] at h
  by_cases e : i - P.length = 0
  ·rw [e] at h; simp only [List.getElem?_cons_zero, Option.some.injEq] at h; exact .inr ⟨by omega, h.symm⟩
  ·rw [show i - P.length = (i - P.length - 1) + 1 by omega] at h
   simp at h
theorem pidx {P : PQ} (hd : (nodes P).Nodup) {i j x : Nat} {a b : Option Nat} (h1 : P[i]? = some (x, a)) (h2 : P[j]? = some (x, b)) : i = j /\ a = b := by
 have e1 : (nodes P)[i]? = some x := ZD1 h1
 have e2 : (nodes P)[j]? = some x := ZD1 h2
 obtain rfl := ZCQ hd e1 e2
 rw [h1] at h2; cases h2; exact ⟨rfl, rfl⟩
theorem ZCY {P : PQ} {c : Nat} : c ∈ ctxs P ↔ ∃ x : Nat, (x, some c) ∈ P := by
 unfold ctxs
 rw [List.mem_filterMap]
 constructor
 ·rintro ⟨⟨x, b⟩, h1, h2⟩
  simp only at h2; subst h2; exact ⟨x, h1⟩
 ·rintro ⟨x, h⟩; exact ⟨_, h, rfl⟩
section
variable {n E tl : Nat} {L : AL} {ws : Nat -> Int} {P : PQ}
theorem AbInv.at (H : AbInv n E tl L ws P) {c x : Nat} (h : (x, some c) ∈ P) : c < n /\ L.no c = (x : Int) /\ inP L c := by
 obtain ⟨i, hi, hg⟩ := ZFF h
 obtain ⟨h1, h2, h3, h4⟩ := H.tg i x c hg
 refine ⟨h1, h2, ?_⟩
 unfold inP
 by_cases h0 : i = 0
 ·have := h3 h0; omega
 ·have := h4 h0; omega
theorem AbInv.place (H : AbInv n E tl L ws P) {c : Nat} (h : inP L c) : ∃ (i x : Nat), P[i]? = some (x, some c) /\ L.no c = (x : Int) := by
 obtain ⟨x, hx⟩ := H.inn c h
 obtain ⟨i, hi, hg⟩ := ZFF hx
 exact ⟨i, x, hg, (H.at hx).2.1⟩
theorem inP.act {c : Nat} (h : inP L c) : actv L c := by unfold inP at h; unfold actv; omega
theorem AbInv.who (H : AbInv n E tl L ws P) {c d x : Nat} (h : (x, some c) ∈ P) (hd : actv L d) (hx : L.no d = (x : Int)) : d = c := by
 obtain ⟨_, h2, h3⟩ := H.at h
 exact H.dst d c hd h3.act (hx.trans h2.symm)
theorem AbInv.first (H : AbInv n E tl L ws P) {x : Nat} {b : Option Nat} {r : PQ} (h : P = (x, b) :: r) : ∃ c, b = some c := by
 subst h
 cases b with
 | none => exact absurd rfl (H.tn 0 x rfl).1
 | some c => exact ⟨c, rfl⟩
theorem AbInv.lead (H : AbInv n E tl L ws P) {c : Nat} (h : L.ss.st c = 2 \/ L.ss.st c = 3 /\ L.sp c <= 4) : ∃ x : Nat, P[0]? = some (x, some c) /\ L.no c = (x : Int) := by
 obtain ⟨i, x, hg, hx⟩ := H.place (c := c) (by unfold inP; omega)
 by_cases h0 : i = 0
 ·subst h0; exact ⟨x, hg, hx⟩
 ·have := ((H.tg i x c hg).2.2.2 h0).1
  omega
theorem ZD2 {x c : Nat} (h : P[0]? = some (x, some c)) : (ctxs P).head? = some c := by
 cases P with
 | nil => simp at h
 | cons p r =>
  simp only [List.getElem?_cons_zero, Option.some.injEq] at h
  subst h
  rfl
theorem ZMr (hd : (nodes P).Nodup) (h : ∀ (c x y : Nat), (x, some c) ∈ P -> (y, some c) ∈ P -> x = y) : (ctxs P).Nodup := by
 induction P with
 | nil => exact List.nodup_nil
 | cons p r ih =>
  have hd2 : p.1 ∉ nodes r /\ (nodes r).Nodup := List.nodup_cons.1 hd
  have ih := ih hd2.2 fun c x y hx hy => h c x y (List.mem_cons_of_mem _ hx) (List.mem_cons_of_mem _ hy)
  obtain ⟨x, b⟩ := p
  cases b with
  | none => exact ih
  | some c =>
   show (c :: ctxs r).Nodup
   refine List.nodup_cons.2 ⟨fun hc => ?_, ih⟩
   obtain ⟨y, hy⟩ := ZCY.1 hc
   have := h c x y (List.mem_cons_self ..) (List.mem_cons_of_mem _ hy)
   subst this
   exact hd2.1 (ZBb hy)
theorem AbInv.qst (H : AbInv n E tl L ws P) : QSt L.ss.st n (ctxs P) := by
 refine ⟨ZMr H.nd fun c x y hx hy => ?_, fun t ht => ?_, fun t h0 ht => ?_, fun t h2 => ?_, fun t h3 ht => ?_, fun t => ?_⟩
 ·have h1 := (H.at hx).2.1
  have h2 := (H.at hy).2.1
  omega
 ·obtain ⟨x, hx⟩ := ZCY.1 ht; exact (H.at hx).1
 ·obtain ⟨x, hx⟩ := ZCY.1 ht
  have := (H.at hx).2.2
  unfold inP at this; omega
 ·have := H.rng t
  obtain ⟨x, hx, _⟩ := H.lead (c := t) (by omega)
  exact ZD2 hx
 ·obtain ⟨x, hx⟩ := ZCY.1 ht
  have := (H.at hx).2.2
  obtain ⟨y, hy, _⟩ := H.lead (c := t) (by unfold inP at this; omega)
  exact ZD2 hy
 ·have := H.rng t; omega
end
theorem AbInv.mine {n E tl : Nat} {L L' : AL} {ws ws' : Nat -> Int} {P : PQ} (H : AbInv n E tl L ws P) {t x : Nat} (htn : t < n) (ht : L.ss.st t = 1) (h4 : L.sp t <= 4) (hss : L'.ss = L.ss) (ho : ∀ u, u ≠ t -> L'.sp u = L.sp u /\ L'.no u = L.no u /\ L'.ot u = L.ot u)
  (hx : L'.no t = (x : Int)) (hxr : t * E < x /\ x <= t * E + E /\ x <= n * E) (hxP : x ∉ nodes P) (hxd : ∀ u, u ≠ t -> actv L u -> L.no u ≠ (x : Int))
  (htl : ws' tl = ws tl) (hws : ∀ y, 1 <= y -> y ≠ x -> ws' (aS tl y) = ws (aS tl y) /\ ws' (aN tl y) = ws (aN tl y) /\ ws' (aO tl y) = ws (aO tl y))
  (hsp : 0 <= L'.sp t /\ L'.sp t <= 4) (h2 : 2 <= L'.sp t -> ws' (aO tl x) = 1) (h3 : 3 <= L'.sp t -> ws' (aS tl x) = 0) (h5 : 4 <= L'.sp t -> ws' (aN tl x) = 0) : AbInv n E tl L' ws' P := by
 have hnP : ∀ b, (x, b) ∉ P := fun b h => hxP (ZBb h)
 have hcP : ∀ y, (y, some t) ∉ P := fun y h => by have := (H.at h).2.2; unfold inP at this; omega
 have keep : ∀ y b, (y, b) ∈ P -> 1 <= y /\ y ≠ x := fun y b h => ⟨(H.rg _ h).1, fun e => by subst e; exact hnP _ h⟩
 have act' : ∀ u, u ≠ t -> (actv L' u ↔ actv L u) := fun u hu => by unfold actv; rw [hss, (ho u hu).1]
 refine ⟨fun u => by rw [hss]; exact H.rng u, fun u => ?_, H.nd, fun p hp => ?_, fun i y c hi => ?_, fun i y hi => ?_, fun c hc => ?_, fun c hc => ?_, fun c d hc hd e => ?_, fun c y hy s1 s2 s3 => ?_, fun c y hy s1 s2 => ?_, htl.trans H.tail, fun i y a z b h1 hz2 => ?_, fun p hp => ?_, fun c s1 s2 => ?_⟩
 ·rw [hss]
  by_cases hu : u = t
  ·subst hu; exact ⟨hsp.1, by omega, by omega, by omega⟩
  ·rw [(ho u hu).1]; exact H.sp u
 ·obtain ⟨y, b⟩ := p
  obtain ⟨k1, k2⟩ := keep y b hp
  have := H.rg _ hp
  exact ⟨this.1, this.2.1, by rw [(hws y k1 k2).2.2]; exact this.2.2⟩
 ·have hm := ZAK hi
  obtain ⟨k1, k2⟩ := keep _ _ hm
  have hct : c ≠ t := fun e => hcP y (e ▸ hm)
  rw [hss, (ho c hct).1, (ho c hct).2.1, (hws y k1 k2).1]
  exact H.tg i y c hi
 ·obtain ⟨k1, k2⟩ := keep _ _ (ZAK hi)
  rw [(hws y k1 k2).1]; exact H.tn i y hi
 ·have hct : c ≠ t := fun e => by subst e; unfold inP at hc; rw [hss] at hc; omega
  refine H.inn c ?_
  unfold inP at hc ⊢; rw [hss, (ho c hct).1] at hc; exact hc
 ·by_cases hct : c = t
  ·subst hct
   exact ⟨htn, x, hx, by omega, hxr.2.2⟩
  ·rw [(ho c hct).2.1]; exact H.pos c ((act' c hct).1 hc)
 ·by_cases h1 : c = t <;> by_cases h6 : d = t
  ·rw [h1, h6]
  ·subst h1
   rw [hx, (ho d h6).2.1] at e
   exact absurd e.symm (hxd d h6 ((act' d h6).1 hd))
  ·subst h6
   rw [hx, (ho c h1).2.1] at e
   exact absurd e (hxd c h1 ((act' c h1).1 hc))
  ·rw [(ho c h1).2.1, (ho d h6).2.1] at e
   exact H.dst c d ((act' c h1).1 hc) ((act' d h6).1 hd) e
 ·by_cases hct : c = t
  ·subst hct
   rw [hx] at hy
   obtain rfl : x = y := by omega
   exact ⟨hxr.1, hxr.2.1, hxP, h2, h3, h5⟩
  ·rw [hss] at s1
   rw [(ho c hct).1] at s2 s3 ⊢
   rw [(ho c hct).2.1] at hy
   have ha : actv L c := .inl ⟨s1, s2⟩
   obtain ⟨_, z, hz, z1, z2⟩ := H.pos c ha
   have hyx : y ≠ x := fun e => hxd c hct ha (by rw [hy, e])
   have hy1 : 1 <= y := by omega
   obtain ⟨w1, w2, w3⟩ := hws y hy1 hyx
   rw [w1, w2, w3]
   exact H.own c y hy s1 s2 s3
 ·have hct : c ≠ t := fun e => by subst e; rw [hss] at s1; omega
  rw [hss] at s1
  rw [(ho c hct).1] at s2
  rw [(ho c hct).2.1] at hy
  have ha : actv L c := .inr (.inr s1)
  obtain ⟨_, z, hz, z1, z2⟩ := H.pos c ha
  have hyx : y ≠ x := fun e => hxd c hct ha (by rw [hy, e])
  rw [(hws y (by omega) hyx).2.2]
  exact H.fin c y hy s1 s2
 ·obtain ⟨k1, k2⟩ := keep _ _ (ZAK h1)
  rw [(hws y k1 k2).2.1]
  have hb : ∀ c, b = some c -> c ≠ t := fun c hc e => by subst hc; subst e; exact hcP z (ZAK hz2)
  rcases H.nx i y a z b h1 hz2 with ⟨c, c1, c2, c3, c4⟩ | ⟨c1, c2⟩
  ·have := hb c c1
   exact .inl ⟨c, c1, by rw [(ho c this).1]; exact c2, c3, by rw [(ho c this).2.2]; exact c4⟩
  ·exact .inr ⟨fun c hc => by rw [(ho c (hb c hc)).1]; exact c1 c hc, c2⟩
 ·obtain ⟨k1, k2⟩ := keep p.1 p.2 (List.mem_of_getLast? hp)
  rw [(hws _ k1 k2).2.1]; exact H.lst p hp
 ·have hct : c ≠ t := fun e => by subst e; rw [hss] at s1; omega
  rw [hss] at s1
  rw [(ho c hct).1] at s2 ⊢
  rw [(ho c hct).2.2]
  obtain ⟨y, b, b1, b2, b3, b4⟩ := H.ha c s1 s2
  refine ⟨y, b, b1, b2, b3, fun d hd => ?_⟩
  have hdt : d ≠ t := fun e => by subst hd; subst e; exact hcP y (ZAK b1)
  rw [(ho d hdt).1]; exact b4 d hd
section
variable {n E tl : Nat} {L : AL} {ws : Nat -> Int} {P : PQ}
theorem AbInv.off (H : AbInv n E tl L ws P) {t : Nat} (h0 : L.sp t = 0) (h1 : L.ss.st t = 0 \/ L.ss.st t = 1) {ss' : SS} {v : Int} (hv : v = 0 \/ v = 1) (hst : ss'.st = updF L.ss.st t v) {sp' tr' no' ot' : Nat -> Int}
  (hsp : sp' t = 0) (ho : ∀ u, u ≠ t -> sp' u = L.sp u /\ no' u = L.no u /\ ot' u = L.ot u) : AbInv n E tl ⟨ss', sp', tr', no', ot'⟩ ws P := by
 have hna : ¬ actv L t := by unfold actv; omega
 have hcP : ∀ y, (y, some t) ∉ P := fun y h => hna (H.at h).2.2.act
 have st' : ∀ u, u ≠ t -> ss'.st u = L.ss.st u := fun u hu => by rw [hst, ZAA _ _ hu]
 have stt : ss'.st t = v := by rw [hst, ZAC]
 have nt : ∀ c, (1 <= sp' c \/ ss'.st c = 2 \/ ss'.st c = 3) -> c ≠ t := fun c hc e => by subst e; omega
 refine ⟨fun u => ?_, fun u => ?_, H.nd, H.rg, fun i y c hi => ?_, H.tn, fun c hc => ?_, fun c hc => ?_, fun c d hc hd e => ?_, fun c y hy s1 s2 s3 => ?_, fun c y hy s1 s2 => ?_, H.tail, fun i y a z b g1 g2 => ?_, H.lst, fun c s1 s2 => ?_⟩
 ·by_cases hu : u = t
  ·subst hu; show 0 <= ss'.st u /\ ss'.st u <= 3; omega
  ·show 0 <= ss'.st u /\ ss'.st u <= 3; rw [st' u hu]; exact H.rng u
 ·by_cases hu : u = t
  ·subst hu; show 0 <= sp' u /\ sp' u <= 7 /\ (ss'.st u = 0 \/ ss'.st u = 2 -> sp' u = 0) /\ (ss'.st u = 3 -> sp' u <= 5); rw [hsp]; exact ⟨by omega, by omega, fun _ => rfl, fun _ => by omega⟩
  ·show 0 <= sp' u /\ sp' u <= 7 /\ (ss'.st u = 0 \/ ss'.st u = 2 -> sp' u = 0) /\ (ss'.st u = 3 -> sp' u <= 5)
   rw [st' u hu, (ho u hu).1]; exact H.sp u
 ·have hct : c ≠ t := fun e => hcP y (e ▸ ZAK hi)
  simp only [st' c hct, ho c hct]; exact H.tg i y c hi
 ·have hct := nt c (by unfold inP at hc; simp only at hc; omega)
  refine H.inn c ?_
  unfold inP at hc ⊢; simp only [st' c hct, ho c hct] at hc; exact hc
 ·have hct := nt c (by unfold actv at hc; simp only at hc; omega)
  simp only [ho c hct]
  exact H.pos c (by unfold actv at hc ⊢; simp only [st' c hct, ho c hct] at hc; exact hc)
 ·have h1 := nt c (by unfold actv at hc; simp only at hc; omega)
  have h2 := nt d (by unfold actv at hd; simp only at hd; omega)
  simp only [ho c h1, ho d h2] at e
  exact H.dst c d (by unfold actv at hc ⊢; simp only [st' c h1, ho c h1] at hc; exact hc) (by unfold actv at hd ⊢; simp only [st' d h2, ho d h2] at hd; exact hd) e
 ·have h1 := nt c (.inl s2)
  simp only [st' c h1, ho c h1] at hy s1 s2 s3 ⊢
  exact H.own c y hy s1 s2 s3
 ·have h1 := nt c (.inr (.inr s1))
  simp only [st' c h1, ho c h1] at hy s1 s2 ⊢
  exact H.fin c y hy s1 s2
 ·have hb : ∀ c, b = some c -> c ≠ t := fun c hc e => by subst hc; subst e; exact hcP z (ZAK g2)
  rcases H.nx i y a z b g1 g2 with ⟨c, c1, c2, c3, c4⟩ | ⟨c1, c2⟩
  ·have := hb c c1
   exact .inl ⟨c, c1, by simp only [ho c this]; exact c2, c3, by simp only [ho c this]; exact c4⟩
  ·exact .inr ⟨fun c hc => by simp only [ho c (hb c hc)]; exact c1 c hc, c2⟩
 ·have h1 := nt c (.inr (.inr s1))
  simp only [st' c h1, ho c h1] at s1 s2 ⊢
  obtain ⟨y, b, b1, b2, b3, b4⟩ := H.ha c s1 s2
  refine ⟨y, b, b1, b2, b3, fun d hd => ?_⟩
  have hdt : d ≠ t := fun e => by subst hd; subst e; exact hcP y (ZAK b1)
  simp only [ho d hdt]; exact b4 d hd
theorem AbInv.stay (H : AbInv n E tl L ws P) {t x : Nat} {i : Nat} (hg : P[i]? = some (x, some t)) {ss' : SS} {v w : Int} {tr' ot' : Nat -> Int} (hst : ss'.st = updF L.ss.st t v) (ho : ∀ u, u ≠ t -> ot' u = L.ot u)
  (hw : 0 <= w /\ w <= 7) (hvw : v = 1 /\ 6 <= w /\ L.ss.st t = 1 /\ 6 <= L.sp t \/ v = 2 /\ w = 0 /\ i = 0 \/ v = 3 /\ w <= 4 /\ i = 0)
  (hx : v = 3 -> w = 3 \/ w = 4 -> ∃ (y : Nat) (b : Option Nat), P[1]? = some (y, b) /\ ot' t = (y : Int) /\ (w = 4 -> b = none) /\ ∀ d, b = some d -> 6 <= L.sp d) : AbInv n E tl ⟨ss', updF L.sp t w, tr', L.no, ot'⟩ ws P := by
 obtain ⟨htn, hno, hin⟩ := H.at (ZAK hg)
 have st' : ∀ u, u ≠ t -> ss'.st u = L.ss.st u := fun u hu => by rw [hst, ZAA _ _ hu]
 have stt : ss'.st t = v := by rw [hst, ZAC]
 have v3 : 0 <= v /\ v <= 3 /\ (v = 0 \/ v = 2 -> w = 0) /\ (v = 3 -> w <= 5) := by clear hx; omega
 have idx : ∀ j y, P[j]? = some (y, some t) -> j = i := fun j y hj => by
  have h1 := (H.at (ZAK hj)).2.1
  obtain rfl : x = y := by omega
  exact (pidx H.nd hj hg).1
 have act' : ∀ c, actv ⟨ss', updF L.sp t w, tr', L.no, ot'⟩ c -> actv L c := fun c hc => by
  by_cases h : c = t
  ·subst h; exact hin.act
  ·unfold actv at hc ⊢; simp only [st' c h, ZAA _ _ h] at hc; exact hc
 have one : ∀ y b, P[1]? = some (y, b) -> v = 3 -> ∀ d, b = some d -> d ≠ t := fun y b h1 hv d hd e => by
  subst hd; subst e; have := idx 1 y h1; omega
 refine ⟨fun u => ?_, fun u => ?_, H.nd, H.rg, fun j y c hj => ?_, H.tn, fun c hc => ?_, fun c hc => H.pos c (act' c hc), fun c d hc hd e => H.dst c d (act' c hc) (act' d hd) e, fun c y hy s1 s2 s3 => ?_, fun c y hy s1 s2 => ?_, H.tail, fun j y a z b g1 g2 => ?_, H.lst, fun c s1 s2 => ?_⟩
 ·by_cases hu : u = t
  ·subst hu; simp only [stt]; exact ⟨v3.1, v3.2.1⟩
  ·simp only [st' u hu]; exact H.rng u
 ·by_cases hu : u = t
  ·subst hu; simp only [stt, ZAC]; exact ⟨hw.1, hw.2, v3.2.2⟩
  ·simp only [st' u hu, ZAA _ _ hu]; exact H.sp u
 ·by_cases hc : c = t
  ·subst hc
   have hji := idx j y hj
   subst hji
   obtain ⟨t1, t2, t3, t4⟩ := H.tg j y c hj
   simp only [stt, ZAC]
   refine ⟨t1, t2, fun h0 => ?_, fun h0 => ?_⟩
   ·rcases hvw with ⟨h, h2, h5, h6⟩ | h | h
    ·have := t3 h0; exact .inr (.inr ⟨h, h2, by omega⟩)
    ·exact .inl h.1
    ·exact .inr (.inl ⟨h.1, h.2.1⟩)
   ·have := t4 h0
    rcases hvw with ⟨h, h2, h5, h6⟩ | h | h
    ·exact ⟨h, by omega, this.2.2⟩
    ·omega
    ·omega
  ·simp only [st' c hc, ZAA _ _ hc]; exact H.tg j y c hj
 ·by_cases h : c = t
  ·subst h; exact ⟨x, ZAK hg⟩
  ·refine H.inn c ?_
   unfold inP at hc ⊢; simp only [st' c h, ZAA _ _ h] at hc; exact hc
 ·have h : c ≠ t := fun h => by subst h; simp only [stt, ZAC] at s1 s2 s3; omega
  simp only [st' c h, ZAA _ _ h] at s1 s2 s3 ⊢
  exact H.own c y hy s1 s2 s3
 ·have h : c ≠ t := fun h => by subst h; simp only [stt, ZAC] at s1 s2; omega
  simp only [st' c h, ZAA _ _ h] at s1 s2 ⊢
  exact H.fin c y hy s1 s2
 ·rcases H.nx j y a z b g1 g2 with ⟨c, c1, c2, c3, c4⟩ | ⟨c1, c2⟩
  ·have h : c ≠ t := fun h => by
    subst h; subst c1
    have hji := idx _ z g2
    have := H.tg i x c hg
    rcases hvw with hh | hh | hh
    ·omega
    ·omega
    ·omega
   exact .inl ⟨c, c1, by simp only [ZAA _ _ h]; exact c2, c3, by simp only [ho c h]; exact c4⟩
  ·refine .inr ⟨fun c hc => ?_, c2⟩
   by_cases h : c = t
   ·subst h; subst hc
    have hji := idx _ z g2
    simp only [ZAC]
    rcases hvw with hh | hh | hh
    ·exact hh.2.1
    ·omega
    ·omega
   ·simp only [ZAA _ _ h]; exact c1 c hc
 ·by_cases h : c = t
  ·subst h
   simp only [stt, ZAC] at s1 s2 ⊢
   obtain ⟨y, b, b1, b2, b3, b4⟩ := hx s1 s2
   exact ⟨y, b, b1, b2, b3, fun d hd => by simp only [ZAA _ _ (one y b b1 s1 d hd)]; exact b4 d hd⟩
  ·simp only [st' c h, ZAA _ _ h] at s1 s2 ⊢
   obtain ⟨y, b, b1, b2, b3, b4⟩ := H.ha c s1 s2
   refine ⟨y, b, b1, by simp only [ho c h]; exact b2, b3, fun d hd => ?_⟩
   by_cases h2 : d = t
   ·subst h2
    have := b4 d hd
    simp only [ZAC]
    rcases hvw with hh | hh | hh
    ·exact hh.2.1
    ·subst hd; have := idx 1 y b1; omega
    ·subst hd; have := idx 1 y b1; omega
   ·simp only [ZAA _ _ h2]; exact b4 d hd
end
theorem ZMs (P : PQ) (p : Nat × Option Nat) : ZAf (P ++ [p]) = p.1 := by simp [ZAf]
theorem ZFj (P : PQ) (p : Nat × Option Nat) : nodes (P ++ [p]) = nodes P ++ [p.1] := by simp [nodes]
theorem ZOU (P : PQ) (x c : Nat) : ctxs (P ++ [(x, some c)]) = ctxs P ++ [c] := by simp [ctxs]
theorem ZOV {P : PQ} {i x : Nat} {a b : Option Nat} (h : P[i]? = some (x, a)) : nodes (P.set i (x, b)) = nodes P := by
 apply List.ext_getElem?
 intro j
 unfold nodes
 rw [List.getElem?_map, List.getElem?_map, List.getElem?_set]
 by_cases e : i = j
 ·subst e
  rw [if_pos rfl, if_pos (ZDg h), h]; rfl
 ·rw [if_neg e]
theorem ZIP {P : PQ} {i x : Nat} {a b : Option Nat} (h : P[i]? = some (x, a)) {j : Nat} {r : Nat × Option Nat} (hj : (P.set i (x, b))[j]? = some r) : j = i /\ r = (x, b) \/ j ≠ i /\ P[j]? = some r := by
 rw [List.getElem?_set] at hj
 by_cases e : i = j
 ·subst e
  rw [if_pos rfl, if_pos (ZDg h)] at hj
  cases hj; exact .inl ⟨rfl, rfl⟩
 ·rw [if_neg e] at hj; exact .inr ⟨fun h => e h.symm, hj⟩
theorem ZIQ : ∀ {P : PQ} {i x t : Nat}, P[i]? = some (x, some t) -> (ctxs P).Nodup -> ctxs (P.set i (x, none)) = (ctxs P).erase t
 | [], i, x, t, h, _ => by simp at h
 | p :: r, 0, x, t, h, hd => by
  simp only [List.getElem?_cons_zero, Option.some.injEq] at h
  subst h
  show ctxs r = (t :: ctxs r).erase t
  rw [List.erase_cons_head]
 | (y, none) :: r, i + 1, x, t, h, hd => by
  have h' : r[i]? = some (x, some t) := by simpa using h
  show ctxs (r.set i (x, none)) = (ctxs r).erase t
  exact ZIQ h' hd
 | (y, some c) :: r, i + 1, x, t, h, hd => by
  have h' : r[i]? = some (x, some t) := by simpa using h
  have hd' : (c :: ctxs r).Nodup := hd
  have hc := List.nodup_cons.1 hd'
  have hne : c ≠ t := fun e => hc.1 (e ▸ ZCY.2 ⟨x, ZAK h'⟩)
  show c :: ctxs (r.set i (x, none)) = (c :: ctxs r).erase t
  rw [List.erase_cons_tail (by simpa using hne), ZIQ h' hc.2]
section
variable {n E tl : Nat} {L : AL} {ws : Nat -> Int} {P : PQ}
theorem AbInv.lone (H : AbInv n E tl L ws P) {x c : Nat} (h : (x, none) ∈ P) (hc : actv L c) : L.no c ≠ (x : Int) := fun e => by
 obtain ⟨i, _, hg⟩ := ZFF h
 by_cases hi : inP L c
 ·obtain ⟨j, y, hj, hy⟩ := H.place hi
  obtain rfl : x = y := by omega
  have := (pidx H.nd hg hj).2
  cases this
 ·have := H.sp c
  unfold inP at hi; unfold actv at hc
  rcases hc with hc | hc | hc
  ·exact (H.own c x e hc.1 hc.2 (by omega)).2.2.1 (ZBb h)
  ·omega
  ·exact (H.fin c x e hc (by omega)).1 (ZBb h)
theorem AbInv.link (H : AbInv n E tl L ws P) {t x p i : Nat} {a : Option Nat} (hp : P[i]? = some (p, a)) (hg : P[i + 1]? = some (x, some t)) (h5 : L.sp t = 5) {tr' : Nat -> Int} :
  AbInv n E tl ⟨L.ss, updF L.sp t 6, tr', L.no, L.ot⟩ (updF ws (aN tl p) (x : Int)) P := by
 obtain ⟨htn, hno, hin⟩ := H.at (ZAK hg)
 have h1 : L.ss.st t = 1 := ((H.tg _ _ _ hg).2.2.2 (by omega)).1
 have hp1 := (H.rg _ (ZAK hp)).1
 simp only at hp1
 have idx : ∀ j y, P[j]? = some (y, some t) -> j = i + 1 := fun j y hj => by
  have h1 := (H.at (ZAK hj)).2.1
  obtain rfl : x = y := by omega
  exact (pidx H.nd hj hg).1
 have act' : ∀ c, actv ⟨L.ss, updF L.sp t 6, tr', L.no, L.ot⟩ c -> actv L c := fun c hc => by
  by_cases h : c = t
  ·subst h; exact hin.act
  ·unfold actv at hc ⊢; simp only [ZAA _ _ h] at hc; exact hc
 refine ⟨H.rng, fun u => ?_, H.nd, fun r hr => ?_, fun j y c hj => ?_, fun j y hj => ?_, fun c hc => ?_, fun c hc => H.pos c (act' c hc), fun c d hc hd e => H.dst c d (act' c hc) (act' d hd) e, fun c y hy s1 s2 s3 => ?_, fun c y hy s1 s2 => ?_, ?_, fun j y b z d g1 g2 => ?_, fun r hr => ?_, fun c s1 s2 => ?_⟩
 ·by_cases hu : u = t
  ·subst hu; simp only [ZAC, h1]; exact ⟨by omega, by omega, by omega, by omega⟩
  ·simp only [ZAA _ _ hu]; exact H.sp u
 ·have := H.rg r hr
  rw [ZAA _ _ (show aO tl r.1 ≠ aN tl p by unfold aO aN; omega)]; exact this
 ·have hy1 := (H.rg _ (ZAK hj)).1
  simp only at hy1
  rw [ZAA _ _ (show aS tl y ≠ aN tl p by unfold aS aN; omega)]
  by_cases h : c = t
  ·subst h
   have := idx j y hj
   obtain ⟨t1, t2, t3, t4⟩ := H.tg j y c hj
   simp only [ZAC]
   exact ⟨t1, t2, fun h0 => by omega, fun h0 => ⟨h1, by omega, (t4 h0).2.2⟩⟩
  ·simp only [ZAA _ _ h]; exact H.tg j y c hj
 ·have hy1 := (H.rg _ (ZAK hj)).1
  simp only at hy1
  rw [ZAA _ _ (show aS tl y ≠ aN tl p by unfold aS aN; omega)]; exact H.tn j y hj
 ·by_cases h : c = t
  ·subst h; exact ⟨x, ZAK hg⟩
  ·refine H.inn c ?_
   unfold inP at hc ⊢; simp only [ZAA _ _ h] at hc; exact hc
 ·have h : c ≠ t := fun h => by subst h; simp only [ZAC] at s3; omega
  simp only [ZAA _ _ h] at s2 s3 ⊢
  obtain ⟨r1, r2, r3, r4, r5, r6⟩ := H.own c y hy s1 s2 s3
  have hyp : y ≠ p := fun e => r3 (e ▸ ZBb (ZAK hp))
  rw [ZAA _ _ (show aO tl y ≠ aN tl p by unfold aO aN; omega), ZAA _ _ (show aS tl y ≠ aN tl p by unfold aS aN; omega), ZAA _ _ (show aN tl y ≠ aN tl p by unfold aN; omega)]
  exact ⟨r1, r2, r3, r4, r5, r6⟩
 ·have h : c ≠ t := fun h => by subst h; simp only [ZAC] at s2; omega
  simp only [ZAA _ _ h] at s2
  rw [ZAA _ _ (show aO tl y ≠ aN tl p by unfold aO aN; omega)]
  exact H.fin c y hy s1 s2
 ·rw [ZAA _ _ (show tl ≠ aN tl p by unfold aN; omega)]; exact H.tail
 ·have hy1 := (H.rg _ (ZAK g1)).1
  simp only at hy1
  by_cases hyp : y = p
  ·subst hyp
   obtain ⟨rfl, rfl⟩ := pidx H.nd g1 hp
   rw [hg] at g2; cases g2
   refine .inr ⟨fun c hc => ?_, by rw [ZAC]⟩
   cases hc
   simp only [ZAC]; omega
  ·rw [ZAA _ _ (show aN tl y ≠ aN tl p by unfold aN; omega)]
   have hb : ∀ c, d = some c -> c ≠ t := fun c hc e => by
    subst hc; subst e
    have := idx _ z g2
    obtain rfl : j = i := by omega
    rw [hp] at g1; cases g1; exact hyp rfl
   rcases H.nx j y b z d g1 g2 with ⟨c, c1, c2, c3, c4⟩ | ⟨c1, c2⟩
   ·exact .inl ⟨c, c1, by simp only [ZAA _ _ (hb c c1)]; exact c2, c3, c4⟩
   ·exact .inr ⟨fun c hc => by simp only [ZAA _ _ (hb c hc)]; exact c1 c hc, c2⟩
 ·have hr1 := (H.rg _ (List.mem_of_getLast? hr)).1
  have hrp : r.1 ≠ p := fun e => by
   rw [List.getLast?_eq_getElem?] at hr
   have := ZHd (ZD1 hg)
   have h2 : (nodes P)[P.length - 1]? = some p := e ▸ ZD1 hr
   have h3 : (nodes P)[i]? = some p := ZD1 hp
   have := ZCQ H.nd h2 h3
   have := ZDg hg
   omega
  rw [ZAA _ _ (show aN tl r.1 ≠ aN tl p by unfold aN; omega)]; exact H.lst r hr
 ·have h : c ≠ t := fun h => by subst h; have : L.ss.st c = 3 := s1; omega
  simp only [ZAA _ _ h] at s2 ⊢
  obtain ⟨y, b, b1, b2, b3, b4⟩ := H.ha c s1 s2
  refine ⟨y, b, b1, b2, b3, fun d hd => ?_⟩
  by_cases h2 : d = t
  ·subst h2; simp only [ZAC]; omega
  ·simp only [ZAA _ _ h2]; exact b4 d hd
theorem AbInv.quit (H : AbInv n E tl L ws P) {t x i : Nat} (hg : P[i]? = some (x, some t)) (hi : i ≠ 0) (h6 : 6 <= L.sp t) {ss' : SS} {tr' ot' : Nat -> Int} (hst : ss'.st = updF L.ss.st t 0) (ho : ∀ u, u ≠ t -> ot' u = L.ot u) :
  AbInv n E tl ⟨ss', updF L.sp t 0, tr', L.no, ot'⟩ (updF ws (aS tl x) 2) (P.set i (x, none)) := by
 obtain ⟨htn, hno, hin⟩ := H.at (ZAK hg)
 have h1 : L.ss.st t = 1 := ((H.tg _ _ _ hg).2.2.2 hi).1
 have hx1 := (H.rg _ (ZAK hg)).1
 simp only at hx1
 have st' : ∀ u, u ≠ t -> ss'.st u = L.ss.st u := fun u hu => by rw [hst, ZAA _ _ hu]
 have stt : ss'.st t = 0 := by rw [hst, ZAC]
 have idx : ∀ j y, P[j]? = some (y, some t) -> j = i := fun j y hj => by
  have h1 := (H.at (ZAK hj)).2.1
  obtain rfl : x = y := by omega
  exact (pidx H.nd hj hg).1
 have nt : ∀ c, (1 <= updF L.sp t 0 c \/ ss'.st c = 2 \/ ss'.st c = 3) -> c ≠ t := fun c hc e => by subst e; rw [ZAC] at hc; omega
 have hns := ZOV (b := none) hg
 have nact : ∀ c, c ≠ t -> (actv ⟨ss', updF L.sp t 0, tr', L.no, ot'⟩ c ↔ actv L c) := fun c h => by unfold actv; simp only [st' c h, ZAA _ _ h]
 have nta : ∀ c, actv ⟨ss', updF L.sp t 0, tr', L.no, ot'⟩ c -> c ≠ t := fun c hc => nt c (by unfold actv at hc; simp only at hc; omega)
 have old : ∀ (j : Nat) (r : Nat × Option Nat), (P.set i (x, none))[j]? = some r -> ∃ b : Option Nat, P[j]? = some (r.1, b) := fun j r hj => by
  rcases ZIP hg hj with ⟨rfl, rfl⟩ | ⟨_, h⟩
  ·exact ⟨_, hg⟩
  ·exact ⟨r.2, h⟩
 refine ⟨fun u => ?_, fun u => ?_, hns ▸ H.nd, fun r hr => ?_, fun j y c hj => ?_, fun j y hj => ?_, fun c hc => ?_, fun c hc => ?_, fun c d hc hd e => ?_, fun c y hy s1 s2 s3 => ?_, fun c y hy s1 s2 => ?_, ?_, fun j y b z d g1 g2 => ?_, fun r hr => ?_, fun c s1 s2 => ?_⟩
 ·by_cases hu : u = t
  ·subst hu; simp only [stt]; omega
  ·simp only [st' u hu]; exact H.rng u
 ·by_cases hu : u = t
  ·subst hu; simp only [stt, ZAC]; exact ⟨by omega, by omega, by simp, by omega⟩
  ·simp only [st' u hu, ZAA _ _ hu]; exact H.sp u
 ·obtain ⟨j, _, hj⟩ := ZFF hr
  obtain ⟨b, hb⟩ := old j r hj
  have := H.rg _ (ZAK hb)
  simp only at this
  rw [ZAA _ _ (show aO tl r.1 ≠ aS tl x by unfold aO aS; omega)]; exact this
 ·rcases ZIP hg hj with ⟨_, h⟩ | ⟨hji, h⟩
  ·cases h
  ·have hc : c ≠ t := fun e => by subst e; exact hji (idx j y h)
   have hy1 := (H.rg _ (ZAK h)).1
   simp only at hy1
   have hyx : y ≠ x := fun e => by subst e; exact hji (pidx H.nd h hg).1
   simp only [st' c hc, ZAA _ _ hc]
   rw [ZAA _ _ (show aS tl y ≠ aS tl x by unfold aS; omega)]; exact H.tg j y c h
 ·rcases ZIP hg hj with ⟨rfl, h⟩ | ⟨hji, h⟩
  ·cases h; exact ⟨hi, by rw [ZAC]⟩
  ·have hy1 := (H.rg _ (ZAK h)).1
   simp only at hy1
   have hyx : y ≠ x := fun e => by subst e; exact hji (pidx H.nd h hg).1
   rw [ZAA _ _ (show aS tl y ≠ aS tl x by unfold aS; omega)]; exact H.tn j y h
 ·have h := nt c (by unfold inP at hc; simp only at hc; omega)
  obtain ⟨y, hy⟩ := H.inn c (by unfold inP at hc ⊢; simp only [st' c h, ZAA _ _ h] at hc; exact hc)
  obtain ⟨j, _, hj⟩ := ZFF hy
  have hji : i ≠ j := fun e => by subst e; rw [hg] at hj; cases hj; exact h rfl
  exact ⟨y, ZAK (i := j) (by rw [List.getElem?_set, if_neg hji]; exact hj)⟩
 ·have h := nta c hc
  exact H.pos c ((nact c h).1 hc)
 ·have h2 := nta c hc
  have h3 := nta d hd
  exact H.dst c d ((nact c h2).1 hc) ((nact d h3).1 hd) e
 ·have h := nt c (.inl s2)
  simp only [st' c h, ZAA _ _ h] at s1 s2 s3 ⊢
  obtain ⟨r1, r2, r3, r4, r5, r6⟩ := H.own c y hy s1 s2 s3
  have hyx : y ≠ x := fun e => r3 (e ▸ ZBb (ZAK hg))
  rw [hns, ZAA _ _ (show aO tl y ≠ aS tl x by unfold aO aS; omega), ZAA _ _ (show aS tl y ≠ aS tl x by unfold aS; omega), ZAA _ _ (show aN tl y ≠ aS tl x by unfold aN aS; omega)]
  exact ⟨r1, r2, r3, r4, r5, r6⟩
 ·have h := nt c (.inr (.inr s1))
  simp only [st' c h, ZAA _ _ h] at s1 s2
  rw [hns, ZAA _ _ (show aO tl y ≠ aS tl x by unfold aO aS; omega)]
  exact H.fin c y hy s1 s2
 ·rw [ZAA _ _ (show tl ≠ aS tl x by unfold aS; omega), H.tail]
  unfold ZAf
  rw [List.getLast?_eq_getElem?, List.getLast?_eq_getElem?, List.length_set, List.getElem?_set]
  by_cases e : i = P.length - 1
  ·rw [if_pos e, if_pos (ZDg hg), <- e, hg]
  ·rw [if_neg e]
 ·obtain ⟨b', hb'⟩ := old j _ g1
  simp only at hb'
  have hy1 := (H.rg _ (ZAK hb')).1
  simp only at hy1
  rw [ZAA _ _ (show aN tl y ≠ aS tl x by unfold aN aS; omega)]
  rcases ZIP hg g2 with ⟨e, h⟩ | ⟨hji, h⟩
  ·cases h
   rw [<- e] at hg
   rcases H.nx j y b' x (some t) hb' hg with ⟨c, c1, c2, c3, c4⟩ | ⟨c1, c2⟩
   ·cases c1; omega
   ·exact .inr ⟨fun c hc => (by cases hc), c2⟩
  ·have hb : ∀ c, d = some c -> c ≠ t := fun c hc e => by subst hc; subst e; exact hji (idx _ z h)
   rcases H.nx j y b' z d hb' h with ⟨c, c1, c2, c3, c4⟩ | ⟨c1, c2⟩
   ·exact .inl ⟨c, c1, by simp only [ZAA _ _ (hb c c1)]; exact c2, c3, by simp only [ho c (hb c c1)]; exact c4⟩
   ·exact .inr ⟨fun c hc => by simp only [ZAA _ _ (hb c hc)]; exact c1 c hc, c2⟩
 ·rw [List.getLast?_eq_getElem?, List.length_set] at hr
  obtain ⟨b, hb⟩ := old _ r hr
  have hr1 : 1 <= r.1 := (H.rg _ (ZAK hb)).1
  rw [ZAA _ _ (show aN tl r.1 ≠ aS tl x by unfold aN aS; omega)]
  exact H.lst (r.1, b) (by rw [List.getLast?_eq_getElem?]; exact hb)
 ·have h := nt c (.inr (.inr s1))
  simp only [st' c h, ZAA _ _ h] at s1 s2 ⊢
  obtain ⟨y, b, b1, b2, b3, b4⟩ := H.ha c s1 s2
  by_cases e : i = 1
  ·subst e
   rw [hg] at b1; cases b1
   refine ⟨x, none, by rw [List.getElem?_set, if_pos rfl, if_pos (ZDg hg)], by simp only [ho c h]; exact b2, fun _ => rfl, fun d hd => by cases hd⟩
  ·refine ⟨y, b, by rw [List.getElem?_set, if_neg e]; exact b1, by simp only [ho c h]; exact b2, b3, fun d hd => ?_⟩
   have h2 : d ≠ t := fun h2 => by subst hd; subst h2; exact e (idx 1 y b1).symm
   simp only [ZAA _ _ h2]; exact b4 d hd
end
section
variable {n E tl : Nat} {L : AL} {ws : Nat -> Int} {P : PQ}
theorem AbInv.lone3 (H : AbInv n E tl L ws P) {t x : Nat} (hg : P[0]? = some (x, some t)) {c : Nat} (h3 : L.ss.st c = 3) (h4 : L.sp c <= 4) : c = t := by
 obtain ⟨y, hy, _⟩ := H.lead (c := c) (.inr ⟨h3, h4⟩)
 rw [hg] at hy; cases hy; rfl
theorem AbInv.leave (H : AbInv n E tl L ws P) {t x : Nat} (hP : P = [(x, some t)]) (h3 : L.ss.st t = 3) (h4 : L.sp t <= 4) {tr' : Nat -> Int} : AbInv n E tl ⟨L.ss, updF L.sp t 5, tr', L.no, L.ot⟩ (updF ws tl 0) [] := by
 subst hP
 have hg : ([(x, some t)] : PQ)[0]? = some (x, some t) := rfl
 obtain ⟨htn, hno, hin⟩ := H.at (ZAK hg)
 obtain ⟨rx1, rx2, rx3⟩ := H.rg _ (ZAK hg)
 simp only at rx1 rx2 rx3
 have act' : ∀ c, actv ⟨L.ss, updF L.sp t 5, tr', L.no, L.ot⟩ c -> actv L c := fun c hc => by
  by_cases h : c = t
  ·subst h; exact hin.act
  ·unfold actv at hc ⊢; simp only [ZAA _ _ h] at hc; exact hc
 refine ⟨H.rng, fun u => ?_, List.nodup_nil, by simp, by simp, by simp, fun c hc => ?_, fun c hc => H.pos c (act' c hc), fun c d hc hd e => H.dst c d (act' c hc) (act' d hd) e, fun c y hy s1 s2 s3 => ?_, fun c y hy s1 s2 => ?_, ?_, by simp, by simp, fun c s1 s2 => ?_⟩
 ·by_cases hu : u = t
  ·subst hu; simp only [ZAC, h3]; exact ⟨by omega, by omega, by omega, by omega⟩
  ·simp only [ZAA _ _ hu]; exact H.sp u
 ·have h : c ≠ t := fun h => by subst h; unfold inP at hc; simp only [ZAC, h3] at hc; omega
  obtain ⟨y, hy⟩ := H.inn c (by unfold inP at hc ⊢; simp only [ZAA _ _ h] at hc; exact hc)
  simp only [List.mem_singleton, Prod.mk.injEq, Option.some.injEq] at hy
  exact absurd hy.2 h
 ·have h : c ≠ t := fun h => by subst h; simp only [ZAC] at s3; omega
  simp only [ZAA _ _ h] at s2 s3 ⊢
  obtain ⟨r1, r2, r3, r4, r5, r6⟩ := H.own c y hy s1 s2 s3
  have hy1 : 1 <= y := by omega
  rw [ZAA _ _ (show aO tl y ≠ tl by unfold aO; omega), ZAA _ _ (show aS tl y ≠ tl by unfold aS; omega), ZAA _ _ (show aN tl y ≠ tl by unfold aN; omega)]
  exact ⟨r1, r2, by simp [nodes], r4, r5, r6⟩
 ·by_cases h : c = t
  ·subst h
   have hy' : L.no c = (y : Int) := hy
   obtain rfl : x = y := by omega
   rw [ZAA _ _ (show aO tl x ≠ tl by unfold aO; omega)]
   exact ⟨by simp [nodes], rx3⟩
  ·simp only [ZAA _ _ h] at s2
   obtain ⟨_, z, hz, z1, z2⟩ := H.pos c (.inr (.inr s1))
   have hy' : L.no c = (y : Int) := hy
   rw [ZAA _ _ (show aO tl y ≠ tl by unfold aO; omega)]
   exact ⟨by simp [nodes], (H.fin c y hy s1 s2).2⟩
 ·rw [ZAC]; rfl
 ·by_cases h : c = t
  ·subst h; simp only [ZAC] at s2; omega
  ·simp only [ZAA _ _ h] at s2
   exact absurd (H.lone3 hg s1 (by omega)) h
theorem AbInv.hand (H : AbInv n E tl L ws P) {t x y d : Nat} {r : PQ} (hP : P = (x, some t) :: (y, some d) :: r) (h3 : L.ss.st t = 3) (h4 : L.sp t <= 4) (h6 : 6 <= L.sp d) {tr' : Nat -> Int} :
  AbInv n E tl ⟨L.ss, updF L.sp t 5, tr', L.no, L.ot⟩ (updF ws (aS tl y) 1) ((y, some d) :: r) := by
 subst hP
 have hg : ((x, some t) :: (y, some d) :: r : PQ)[0]? = some (x, some t) := rfl
 have hg1 : ((x, some t) :: (y, some d) :: r : PQ)[1]? = some (y, some d) := rfl
 obtain ⟨htn, hno, hin⟩ := H.at (ZAK hg)
 obtain ⟨rx1, rx2, rx3⟩ := H.rg _ (ZAK hg)
 obtain ⟨ry1, ry2, ry3⟩ := H.rg _ (ZAK hg1)
 simp only at rx1 rx2 rx3 ry1 ry2 ry3
 have hd1 : L.ss.st d = 1 := ((H.tg _ _ _ hg1).2.2.2 (by omega)).1
 have hnd := List.nodup_cons.1 H.nd
 have hdt : d ≠ t := fun e => by subst e; omega
 have idx : ∀ j z, ((x, some t) :: (y, some d) :: r : PQ)[j]? = some (z, some t) -> j = 0 := fun j z hj => by
  have h1 := (H.at (ZAK hj)).2.1
  obtain rfl : x = z := by omega
  exact (pidx H.nd hj hg).1
 have sh : ∀ {j : Nat} {p : Nat × Option Nat}, ((y, some d) :: r : PQ)[j]? = some p -> ((x, some t) :: (y, some d) :: r : PQ)[j + 1]? = some p := fun h => by simpa using h
 have act' : ∀ c, actv ⟨L.ss, updF L.sp t 5, tr', L.no, L.ot⟩ c -> actv L c := fun c hc => by
  by_cases h : c = t
  ·subst h; exact hin.act
  ·unfold actv at hc ⊢; simp only [ZAA _ _ h] at hc; exact hc
 refine ⟨H.rng, fun u => ?_, hnd.2, fun p hp => ?_, fun j z c hj => ?_, fun j z hj => ?_, fun c hc => ?_, fun c hc => H.pos c (act' c hc), fun c d hc hd e => H.dst c d (act' c hc) (act' d hd) e, fun c z hz s1 s2 s3 => ?_, fun c z hz s1 s2 => ?_, ?_, fun j z a w b g1 g2 => ?_, fun p hp => ?_, fun c s1 s2 => ?_⟩
 ·by_cases hu : u = t
  ·subst hu; simp only [ZAC, h3]; exact ⟨by omega, by omega, by omega, by omega⟩
  ·simp only [ZAA _ _ hu]; exact H.sp u
 ·have := H.rg p (List.mem_cons_of_mem _ hp)
  rw [ZAA _ _ (show aO tl p.1 ≠ aS tl y by unfold aO aS; omega)]; exact this
 ·have hj' := sh hj
  have hz1 : 1 <= z := (H.rg _ (ZAK hj')).1
  have hc : c ≠ t := fun e => by subst e; have := idx _ z hj'; omega
  obtain ⟨t1, t2, t3, t4⟩ := H.tg _ z c hj'
  simp only [ZAA _ _ hc]
  refine ⟨t1, t2, fun h0 => ?_, fun h0 => ?_⟩
  ·subst h0
   rw [hg1] at hj'; cases hj'
   exact .inr (.inr ⟨hd1, h6, by rw [ZAC]⟩)
  ·have hzy : z ≠ y := fun e => by
    subst e
    have := (pidx H.nd hj' hg1).1
    omega
   rw [ZAA _ _ (show aS tl z ≠ aS tl y by unfold aS; omega)]; exact t4 (by omega)
 ·have hj' := sh hj
  have hz1 : 1 <= z := (H.rg _ (ZAK hj')).1
  have hzy : z ≠ y := fun e => by subst e; have := (pidx H.nd hj' hg1).2; cases this
  rw [ZAA _ _ (show aS tl z ≠ aS tl y by unfold aS; omega)]
  refine ⟨fun h0 => ?_, (H.tn _ z hj').2⟩
  subst h0; rw [hg1] at hj'; cases hj'
 ·have h : c ≠ t := fun h => by subst h; unfold inP at hc; simp only [ZAC, h3] at hc; omega
  obtain ⟨z, hz⟩ := H.inn c (by unfold inP at hc ⊢; simp only [ZAA _ _ h] at hc; exact hc)
  rcases List.mem_cons.1 hz with hz | hz
  ·simp only [Prod.mk.injEq, Option.some.injEq] at hz; exact absurd hz.2 h
  ·exact ⟨z, hz⟩
 ·have h : c ≠ t := fun h => by subst h; simp only [ZAC] at s3; omega
  simp only [ZAA _ _ h] at s2 s3 ⊢
  obtain ⟨r1, r2, r3, r4, r5, r6⟩ := H.own c z hz s1 s2 s3
  have hzy : z ≠ y := fun e => r3 (e ▸ ZBb (ZAK hg1))
  rw [ZAA _ _ (show aO tl z ≠ aS tl y by unfold aO aS; omega), ZAA _ _ (show aS tl z ≠ aS tl y by unfold aS; omega), ZAA _ _ (show aN tl z ≠ aS tl y by unfold aN aS; omega)]
  exact ⟨r1, r2, fun h => r3 (List.mem_cons_of_mem _ h), r4, r5, r6⟩
 ·by_cases h : c = t
  ·subst h
   have hy' : L.no c = (z : Int) := hz
   obtain rfl : x = z := by omega
   rw [ZAA _ _ (show aO tl x ≠ aS tl y by unfold aO aS; omega)]
   exact ⟨hnd.1, rx3⟩
  ·simp only [ZAA _ _ h] at s2
   obtain ⟨_, w, hw, w1, w2⟩ := H.pos c (.inr (.inr s1))
   have hz' : L.no c = (z : Int) := hz
   rw [ZAA _ _ (show aO tl z ≠ aS tl y by unfold aO aS; omega)]
   have := H.fin c z hz s1 s2
   exact ⟨fun h => this.1 (List.mem_cons_of_mem _ h), this.2⟩
 ·rw [ZAA _ _ (show tl ≠ aS tl y by unfold aS; omega), H.tail]
  unfold ZAf
  rw [List.getLast?_cons_cons]
 ·have hz1 : 1 <= z := (H.rg _ (ZAK (sh g1))).1
  rw [ZAA _ _ (show aN tl z ≠ aS tl y by unfold aN aS; omega)]
  have hb : ∀ c, b = some c -> c ≠ t := fun c hc e => by subst hc; subst e; have := idx _ w (sh g2); omega
  rcases H.nx _ z a w b (sh g1) (sh g2) with ⟨c, c1, c2, c3, c4⟩ | ⟨c1, c2⟩
  ·exact .inl ⟨c, c1, by simp only [ZAA _ _ (hb c c1)]; exact c2, c3, c4⟩
  ·exact .inr ⟨fun c hc => by simp only [ZAA _ _ (hb c hc)]; exact c1 c hc, c2⟩
 ·have hp1 : 1 <= p.1 := (H.rg p (List.mem_cons_of_mem _ (List.mem_of_getLast? hp))).1
  rw [ZAA _ _ (show aN tl p.1 ≠ aS tl y by unfold aN aS; omega)]
  exact H.lst p (by rw [List.getLast?_cons_cons]; exact hp)
 ·by_cases h : c = t
  ·subst h; simp only [ZAC] at s2; omega
  ·simp only [ZAA _ _ h] at s2
   exact absurd (H.lone3 hg s1 (by omega)) h
theorem AbInv.skip (H : AbInv n E tl L ws P) {t x y : Nat} {r : PQ} (hP : P = (x, some t) :: (y, none) :: r) (h3 : L.ss.st t = 3) (h4 : L.sp t <= 4) {tr' ot' : Nat -> Int} (ho : ∀ u, u ≠ t -> ot' u = L.ot u) :
  AbInv n E tl ⟨L.ss, updF L.sp t 0, tr', updF L.no t (y : Int), ot'⟩ (updF ws (aO tl x) 0) ((y, some t) :: r) := by
 subst hP
 have hg : ((x, some t) :: (y, none) :: r : PQ)[0]? = some (x, some t) := rfl
 have hg1 : ((x, some t) :: (y, none) :: r : PQ)[1]? = some (y, none) := rfl
 obtain ⟨htn, hno, hin⟩ := H.at (ZAK hg)
 obtain ⟨rx1, rx2, rx3⟩ := H.rg _ (ZAK hg)
 obtain ⟨ry1, ry2, ry3⟩ := H.rg _ (ZAK hg1)
 simp only at rx1 rx2 rx3 ry1 ry2 ry3
 have hnd := List.nodup_cons.1 H.nd
 have hxn : ∀ p, p ∈ ((y, none) :: r : PQ) -> p.1 ≠ x := fun p hp e => hnd.1 (by have := ZBb hp; rw [e] at this; exact this)
 have idx : ∀ j z, ((x, some t) :: (y, none) :: r : PQ)[j]? = some (z, some t) -> j = 0 := fun j z hj => by
  have h1 := (H.at (ZAK hj)).2.1
  obtain rfl : x = z := by omega
  exact (pidx H.nd hj hg).1
 -- an entry of the new queue is one of the old one, but for who stands by the first one
 have sh : ∀ {j : Nat} {z : Nat} {b : Option Nat}, ((y, some t) :: r : PQ)[j]? = some (z, b) -> j = 0 /\ z = y /\ b = some t \/ j ≠ 0 /\ ((x, some t) :: (y, none) :: r : PQ)[j + 1]? = some (z, b) := fun {j z b} h => by
  cases j with
  | zero => simp only [List.getElem?_cons_zero, Option.some.injEq, Prod.mk.injEq] at h; exact .inl ⟨rfl, h.1.symm, h.2.symm⟩
  | succ j => exact .inr ⟨by omega, by simpa using h⟩
 have sh1 : ∀ {j : Nat} {z : Nat} {b : Option Nat}, ((y, some t) :: r : PQ)[j]? = some (z, b) -> ∃ b' : Option Nat, ((x, some t) :: (y, none) :: r : PQ)[j + 1]? = some (z, b') := fun {j z b} h => by
  rcases sh h with ⟨rfl, rfl, _⟩ | ⟨_, h⟩
  ·exact ⟨_, hg1⟩
  ·exact ⟨_, h⟩
 have actt : actv L t := hin.act
 have act' : ∀ c, c ≠ t -> (actv ⟨L.ss, updF L.sp t 0, tr', updF L.no t (y : Int), ot'⟩ c ↔ actv L c) := fun c h => by unfold actv; simp only [ZAA _ _ h]
 have mem' : ∀ p, p ∈ ((y, some t) :: r : PQ) -> ∃ b : Option Nat, (p.1, b) ∈ ((y, none) :: r : PQ) := fun p hp => by
  rcases List.mem_cons.1 hp with h | h
  ·subst h; exact ⟨none, List.mem_cons_self ..⟩
  ·exact ⟨p.2, List.mem_cons_of_mem _ h⟩
 refine ⟨H.rng, fun u => ?_, hnd.2, fun p hp => ?_, fun j z c hj => ?_, fun j z hj => ?_, fun c hc => ?_, fun c hc => ?_, fun c d hc hd e => ?_, fun c z hz s1 s2 s3 => ?_, fun c z hz s1 s2 => ?_, ?_, fun j z a w b g1 g2 => ?_, fun p hp => ?_, fun c s1 s2 => ?_⟩
 ·by_cases hu : u = t
  ·subst hu; simp only [ZAC, h3]; exact ⟨by omega, by omega, by omega, by omega⟩
  ·simp only [ZAA _ _ hu]; exact H.sp u
 ·obtain ⟨b, hb⟩ := mem' p hp
  have := H.rg _ (List.mem_cons_of_mem _ hb)
  have h2 := hxn _ hb
  simp only at this h2
  rw [ZAA _ _ (show aO tl p.1 ≠ aO tl x by unfold aO; omega)]; exact this
 ·rcases sh hj with ⟨rfl, rfl, h⟩ | ⟨hj0, h⟩
  ·cases h
   simp only [ZAC]
   exact ⟨htn, trivial, fun _ => .inr (.inl ⟨h3, by omega⟩), fun h => absurd rfl h⟩
  ·have hc : c ≠ t := fun e => by subst e; have := idx _ z h; omega
   have hz1 : 1 <= z := (H.rg _ (ZAK h)).1
   obtain ⟨t1, t2, t3, t4⟩ := H.tg _ z c h
   simp only [ZAA _ _ hc]
   rw [ZAA _ _ (show aS tl z ≠ aO tl x by unfold aS aO; omega)]
   exact ⟨t1, t2, fun h0 => absurd h0 hj0, fun _ => t4 (by omega)⟩
 ·rcases sh hj with ⟨_, _, h⟩ | ⟨hj0, h⟩
  ·cases h
  ·have hz1 : 1 <= z := (H.rg _ (ZAK h)).1
   rw [ZAA _ _ (show aS tl z ≠ aO tl x by unfold aS aO; omega)]
   exact ⟨hj0, (H.tn _ z h).2⟩
 ·by_cases h : c = t
  ·subst h; exact ⟨y, List.mem_cons_self ..⟩
  ·obtain ⟨z, hz⟩ := H.inn c (by unfold inP at hc ⊢; simp only [ZAA _ _ h] at hc; exact hc)
   rcases List.mem_cons.1 hz with hz | hz
   ·simp only [Prod.mk.injEq, Option.some.injEq] at hz; exact absurd hz.2 h
   ·rcases List.mem_cons.1 hz with hz | hz
    ·simp at hz
    ·exact ⟨z, List.mem_cons_of_mem _ hz⟩
 ·by_cases h : c = t
  ·subst h; exact ⟨htn, y, ZAC _ _ _, ry1, ry2⟩
  ·simp only [ZAA _ _ h]; exact H.pos c ((act' c h).1 hc)
 ·by_cases g1 : c = t <;> by_cases g2 : d = t
  ·rw [g1, g2]
  ·subst g1; simp only [ZAC, ZAA _ _ g2] at e
   exact absurd e.symm (H.lone (ZAK hg1) ((act' d g2).1 hd))
  ·subst g2; simp only [ZAC, ZAA _ _ g1] at e
   exact absurd e (H.lone (ZAK hg1) ((act' c g1).1 hc))
  ·simp only [ZAA _ _ g1, ZAA _ _ g2] at e
   exact H.dst c d ((act' c g1).1 hc) ((act' d g2).1 hd) e
 ·have h : c ≠ t := fun h => by subst h; exact absurd (s1.symm.trans h3) (by decide)
  simp only [ZAA _ _ h] at hz s2 s3 ⊢
  obtain ⟨r1, r2, r3, r4, r5, r6⟩ := H.own c z hz s1 s2 s3
  have hzx : z ≠ x := fun e => r3 (e ▸ ZBb (ZAK hg))
  rw [ZAA _ _ (show aO tl z ≠ aO tl x by unfold aO; omega), ZAA _ _ (show aS tl z ≠ aO tl x by unfold aO aS; omega), ZAA _ _ (show aN tl z ≠ aO tl x by unfold aN aO; omega)]
  exact ⟨r1, r2, fun h => r3 (List.mem_cons_of_mem _ h), r4, r5, r6⟩
 ·have h : c ≠ t := fun h => by subst h; simp only [ZAC] at s2; omega
  simp only [ZAA _ _ h] at hz s2
  obtain ⟨_, w, hw, w1, w2⟩ := H.pos c (.inr (.inr s1))
  have := H.fin c z hz s1 s2
  have hzx : z ≠ x := fun e => this.1 (e ▸ ZBb (ZAK hg))
  rw [ZAA _ _ (show aO tl z ≠ aO tl x by unfold aO; omega)]
  exact ⟨fun h => this.1 (List.mem_cons_of_mem _ h), this.2⟩
 ·rw [ZAA _ _ (show tl ≠ aO tl x by unfold aO; omega), H.tail]
  unfold ZAf
  rw [List.getLast?_cons_cons]
  cases r with
  | nil => rfl
  | cons p r => rw [List.getLast?_cons_cons, List.getLast?_cons_cons]
 ·obtain ⟨a', g1'⟩ := sh1 g1
  have hz1 : 1 <= z := (H.rg _ (ZAK g1')).1
  rw [ZAA _ _ (show aN tl z ≠ aO tl x by unfold aN aO; omega)]
  rcases sh g2 with ⟨h0, _⟩ | ⟨_, g2'⟩
  ·omega
  have hb : ∀ c, b = some c -> c ≠ t := fun c hc e => by subst hc; subst e; have := idx _ w g2'; omega
  rcases H.nx _ z a' w b g1' g2' with ⟨c, c1, c2, c3, c4⟩ | ⟨c1, c2⟩
  ·exact .inl ⟨c, c1, by simp only [ZAA _ _ (hb c c1)]; exact c2, c3, by simp only [ho c (hb c c1)]; exact c4⟩
  ·exact .inr ⟨fun c hc => by simp only [ZAA _ _ (hb c hc)]; exact c1 c hc, c2⟩
 ·obtain ⟨q, hq, hqp⟩ : ∃ q : Nat × Option Nat, ((x, some t) :: (y, none) :: r : PQ).getLast? = some q /\ q.1 = p.1 := by
   cases r with
   | nil => simp only [List.getLast?_singleton, Option.some.injEq] at hp; subst hp; exact ⟨_, rfl, rfl⟩
   | cons p' r => rw [List.getLast?_cons_cons] at hp; exact ⟨p, by rw [List.getLast?_cons_cons, List.getLast?_cons_cons]; exact hp, rfl⟩
  have hq1 : 1 <= q.1 := (H.rg q (List.mem_of_getLast? hq)).1
  have := H.lst q hq
  rw [hqp] at this hq1
  rw [ZAA _ _ (show aN tl p.1 ≠ aO tl x by unfold aN aO; omega)]; exact this
 ·by_cases h : c = t
  ·subst h; simp only [ZAC] at s2; omega
  ·simp only [ZAA _ _ h] at s2
   exact absurd (H.lone3 hg s1 (by omega)) h
theorem AbInv.done (H : AbInv n E tl L ws P) {t x : Nat} (h3 : L.ss.st t = 3) (h5 : L.sp t = 5) (hx : L.no t = (x : Int)) {ss' : SS} {tr' ot' : Nat -> Int} (hst : ss'.st = updF L.ss.st t 0) (ho : ∀ u, u ≠ t -> ot' u = L.ot u) :
  AbInv n E tl ⟨ss', updF L.sp t 0, tr', L.no, ot'⟩ (updF ws (aO tl x) 0) P := by
 have hxP := (H.fin t x hx h3 h5).1
 have hact : actv L t := .inr (.inr h3)
 obtain ⟨htn, x', hx', x1, x2⟩ := H.pos t hact
 obtain rfl : x = x' := by omega
 have hcP : ∀ y, (y, some t) ∉ P := fun y h => by have := (H.at h).2.2; unfold inP at this; omega
 have st' : ∀ u, u ≠ t -> ss'.st u = L.ss.st u := fun u hu => by rw [hst, ZAA _ _ hu]
 have stt : ss'.st t = 0 := by rw [hst, ZAC]
 have nt : ∀ c, (1 <= updF L.sp t 0 c \/ ss'.st c = 2 \/ ss'.st c = 3) -> c ≠ t := fun c hc e => by subst e; rw [ZAC] at hc; omega
 have nact : ∀ c, c ≠ t -> (actv ⟨ss', updF L.sp t 0, tr', L.no, ot'⟩ c ↔ actv L c) := fun c h => by unfold actv; simp only [st' c h, ZAA _ _ h]
 have nta : ∀ c, actv ⟨ss', updF L.sp t 0, tr', L.no, ot'⟩ c -> c ≠ t := fun c hc => nt c (by unfold actv at hc; simp only at hc; omega)
 have hne : ∀ c (y : Nat), c ≠ t -> actv L c -> L.no c = (y : Int) -> y ≠ x := fun c y hc ha hy e => hc (H.dst c t ha hact (by rw [hy, hx, e]))
 refine ⟨fun u => ?_, fun u => ?_, H.nd, fun p hp => ?_, fun j y c hj => ?_, fun j y hj => ?_, fun c hc => ?_, fun c hc => ?_, fun c d hc hd e => ?_, fun c y hy s1 s2 s3 => ?_, fun c y hy s1 s2 => ?_, ?_, fun j y a z b g1 g2 => ?_, fun p hp => ?_, fun c s1 s2 => ?_⟩
 ·by_cases hu : u = t
  ·subst hu; simp only [stt]; omega
  ·simp only [st' u hu]; exact H.rng u
 ·by_cases hu : u = t
  ·subst hu; simp only [stt, ZAC]; exact ⟨by omega, by omega, by simp, by omega⟩
  ·simp only [st' u hu, ZAA _ _ hu]; exact H.sp u
 ·have := H.rg p hp
  have h2 : p.1 ≠ x := fun e => hxP (e ▸ ZBb hp)
  rw [ZAA _ _ (show aO tl p.1 ≠ aO tl x by unfold aO; omega)]; exact this
 ·have hc : c ≠ t := fun e => hcP y (e ▸ ZAK hj)
  have hy1 : 1 <= y := (H.rg _ (ZAK hj)).1
  simp only [st' c hc, ZAA _ _ hc]
  rw [ZAA _ _ (show aS tl y ≠ aO tl x by unfold aS aO; omega)]; exact H.tg j y c hj
 ·have hy1 : 1 <= y := (H.rg _ (ZAK hj)).1
  rw [ZAA _ _ (show aS tl y ≠ aO tl x by unfold aS aO; omega)]; exact H.tn j y hj
 ·have h := nt c (by unfold inP at hc; simp only at hc; omega)
  exact H.inn c (by unfold inP at hc ⊢; simp only [st' c h, ZAA _ _ h] at hc; exact hc)
 ·exact H.pos c ((nact c (nta c hc)).1 hc)
 ·exact H.dst c d ((nact c (nta c hc)).1 hc) ((nact d (nta d hd)).1 hd) e
 ·have h := nt c (.inl s2)
  simp only [st' c h, ZAA _ _ h] at s1 s2 s3 ⊢
  have hyx := hne c y h (.inl ⟨s1, s2⟩) hy
  obtain ⟨r1, r2, r3, r4, r5, r6⟩ := H.own c y hy s1 s2 s3
  rw [ZAA _ _ (show aO tl y ≠ aO tl x by unfold aO; omega), ZAA _ _ (show aS tl y ≠ aO tl x by unfold aS aO; omega), ZAA _ _ (show aN tl y ≠ aO tl x by unfold aN aO; omega)]
  exact ⟨r1, r2, r3, r4, r5, r6⟩
 ·have h := nt c (.inr (.inr s1))
  simp only [st' c h, ZAA _ _ h] at s1 s2
  have hyx := hne c y h (.inr (.inr s1)) hy
  rw [ZAA _ _ (show aO tl y ≠ aO tl x by unfold aO; omega)]
  exact H.fin c y hy s1 s2
 ·rw [ZAA _ _ (show tl ≠ aO tl x by unfold aO; omega)]; exact H.tail
 ·have hy1 : 1 <= y := (H.rg _ (ZAK g1)).1
  rw [ZAA _ _ (show aN tl y ≠ aO tl x by unfold aN aO; omega)]
  have hb : ∀ c, b = some c -> c ≠ t := fun c hc e => by subst hc; subst e; exact hcP z (ZAK g2)
  rcases H.nx j y a z b g1 g2 with ⟨c, c1, c2, c3, c4⟩ | ⟨c1, c2⟩
  ·exact .inl ⟨c, c1, by simp only [ZAA _ _ (hb c c1)]; exact c2, c3, by simp only [ho c (hb c c1)]; exact c4⟩
  ·exact .inr ⟨fun c hc => by simp only [ZAA _ _ (hb c hc)]; exact c1 c hc, c2⟩
 ·have hp1 : 1 <= p.1 := (H.rg p (List.mem_of_getLast? hp)).1
  rw [ZAA _ _ (show aN tl p.1 ≠ aO tl x by unfold aN aO; omega)]; exact H.lst p hp
 ·have h := nt c (.inr (.inr s1))
  simp only [st' c h, ZAA _ _ h] at s1 s2 ⊢
  obtain ⟨y, b, b1, b2, b3, b4⟩ := H.ha c s1 s2
  refine ⟨y, b, b1, by simp only [ho c h]; exact b2, b3, fun d hd => ?_⟩
  have h2 : d ≠ t := fun e => by subst hd; subst e; exact hcP y (ZAK b1)
  simp only [ZAA _ _ h2]; exact b4 d hd
end
section
variable {n E tl : Nat} {L : AL} {ws : Nat -> Int} {P : PQ}
theorem AbInv.fresh (H : AbInv n E tl L ws P) {t x : Nat} (h0 : ws (aO tl x) = 0) (h1 : t * E < x) (h2 : x <= t * E + E) : x ∉ nodes P /\ ∀ u, u ≠ t -> actv L u -> L.no u ≠ (x : Int) := by
 refine ⟨fun h => ?_, fun u hu ha e => ?_⟩
 ·obtain ⟨b, hb⟩ := ZOT h
  have := (H.rg _ hb).2.2
  simp only at this; omega
 ·have hs := H.sp u
  by_cases hi : inP L u
  ·obtain ⟨i, y, hy, he⟩ := H.place hi
   have h3 := (H.rg _ (ZAK hy)).2.2
   simp only at h3
   obtain rfl : x = y := by omega
   omega
  ·unfold inP at hi; unfold actv at ha
   rcases ha with ha | ha | ha
   ·obtain ⟨r1, r2, r3, r4, _⟩ := H.own u x e ha.1 ha.2 (by omega)
    rcases Nat.lt_or_gt_of_ne hu with h | h
    ·have := Nat.mul_le_mul_right E (show u + 1 <= t from h)
     rw [Nat.add_mul, Nat.one_mul] at this; omega
    ·have := Nat.mul_le_mul_right E (show t + 1 <= u from h)
     rw [Nat.add_mul, Nat.one_mul] at this; omega
   ·omega
   ·have := (H.fin u x e ha (by omega)).2
    omega
theorem AbInv.queue0 (H : AbInv n E tl L ws []) {t x : Nat} (htn : t < n) (h1 : L.ss.st t = 1) (h4 : L.sp t = 4) (hx : L.no t = (x : Int)) {ss' : SS} {tr' ot' : Nat -> Int} (hst : ss'.st = updF L.ss.st t 2) (ho : ∀ u, u ≠ t -> ot' u = L.ot u) :
  AbInv n E tl ⟨ss', updF L.sp t 0, tr', L.no, ot'⟩ (updF ws tl (x : Int)) [(x, some t)] := by
 obtain ⟨r1, r2, r3, r4, r5, r6⟩ := H.own t x hx h1 (by omega) (by omega)
 have hact : actv L t := .inl ⟨h1, by omega⟩
 obtain ⟨_, x', hx', x1, x2⟩ := H.pos t hact
 obtain rfl : x = x' := by omega
 have st' : ∀ u, u ≠ t -> ss'.st u = L.ss.st u := fun u hu => by rw [hst, ZAA _ _ hu]
 have stt : ss'.st t = 2 := by rw [hst, ZAC]
 have act' : ∀ c, actv ⟨ss', updF L.sp t 0, tr', L.no, ot'⟩ c -> actv L c := fun c hc => by
  by_cases h : c = t
  ·subst h; exact hact
  ·unfold actv at hc ⊢; simp only [st' c h, ZAA _ _ h] at hc; exact hc
 have nin : ∀ c, ¬ inP L c := fun c hc => by obtain ⟨y, hy⟩ := H.inn c hc; simp at hy
 have g0 : ∀ {j : Nat} {p : Nat × Option Nat}, ([(x, some t)] : PQ)[j]? = some p -> j = 0 /\ p = (x, some t) := fun {j p} h => by
  cases j with
  | zero => simp only [List.getElem?_cons_zero, Option.some.injEq] at h; exact ⟨rfl, h.symm⟩
  | succ j => simp at h
 refine ⟨fun u => ?_, fun u => ?_, by simp [nodes], fun p hp => ?_, fun j y c hj => ?_, fun j y hj => ?_, fun c hc => ?_, fun c hc => H.pos c (act' c hc), fun c d hc hd e => H.dst c d (act' c hc) (act' d hd) e, fun c y hy s1 s2 s3 => ?_, fun c y hy s1 s2 => ?_, ?_, fun j y a z b g1 g2 => ?_, fun p hp => ?_, fun c s1 s2 => ?_⟩
 ·by_cases hu : u = t
  ·subst hu; simp only [stt]; omega
  ·simp only [st' u hu]; exact H.rng u
 ·by_cases hu : u = t
  ·subst hu; simp only [stt, ZAC]; exact ⟨by omega, by omega, by simp, by omega⟩
  ·simp only [st' u hu, ZAA _ _ hu]; exact H.sp u
 ·simp only [List.mem_singleton] at hp
  subst hp
  rw [ZAA _ _ (show aO tl x ≠ tl by unfold aO; omega)]
  exact ⟨x1, x2, r4 (by omega)⟩
 ·obtain ⟨rfl, h⟩ := g0 hj
  cases h
  exact ⟨htn, hx, fun _ => .inl stt, fun h => absurd rfl h⟩
 ·cases (g0 hj).2
 ·by_cases h : c = t
  ·subst h; exact ⟨x, List.mem_cons_self ..⟩
  ·exact absurd (by unfold inP at hc ⊢; simp only [st' c h, ZAA _ _ h] at hc; exact hc) (nin c)
 ·have h : c ≠ t := fun h => by subst h; simp only [ZAC] at s2; omega
  simp only [st' c h, ZAA _ _ h] at s1 s2 s3 ⊢
  obtain ⟨q1, q2, q3, q4, q5, q6⟩ := H.own c y hy s1 s2 s3
  have hyx : y ≠ x := fun e => h (H.dst c t (.inl ⟨s1, s2⟩) hact (by rw [show L.no c = (y : Int) from hy, hx, e]))
  rw [ZAA _ _ (show aO tl y ≠ tl by unfold aO; omega), ZAA _ _ (show aS tl y ≠ tl by unfold aS; omega), ZAA _ _ (show aN tl y ≠ tl by unfold aN; omega)]
  exact ⟨q1, q2, by simp [nodes, hyx], q4, q5, q6⟩
 ·have h : c ≠ t := fun h => by subst h; simp only [stt] at s1; omega
  simp only [st' c h, ZAA _ _ h] at s1 s2
  have hyx : y ≠ x := fun e => h (H.dst c t (.inr (.inr s1)) hact (by rw [show L.no c = (y : Int) from hy, hx, e]))
  obtain ⟨_, w, hw, w1, w2⟩ := H.pos c (.inr (.inr s1))
  have hy' : L.no c = (y : Int) := hy
  rw [ZAA _ _ (show aO tl y ≠ tl by unfold aO; omega)]
  exact ⟨by simp [nodes, hyx], (H.fin c y hy s1 s2).2⟩
 ·rw [ZAC]; rfl
 ·have := (g0 g2).1; omega
 ·simp only [List.getLast?_singleton, Option.some.injEq] at hp
  subst hp
  rw [ZAA _ _ (show aN tl x ≠ tl by unfold aN; omega)]; exact r6 (by omega)
 ·have h : c ≠ t := fun h => by subst h; simp only [stt] at s1; omega
  simp only [st' c h, ZAA _ _ h] at s1 s2
  exact absurd (.inr (.inr ⟨s1, by omega⟩)) (nin c)
theorem AbInv.queue1 (H : AbInv n E tl L ws P) {t x l : Nat} (htn : t < n) (h1 : L.ss.st t = 1) (h4 : L.sp t = 4) (hx : L.no t = (x : Int)) {a0 : Option Nat} (hl : P.getLast? = some (l, a0)) {ss' : SS} {tr' ot' : Nat -> Int} (hst : ss'.st = L.ss.st) (ho : ∀ u, u ≠ t -> ot' u = L.ot u) (hot : ot' t = (l : Int)) :
  AbInv n E tl ⟨ss', updF L.sp t 5, tr', L.no, ot'⟩ (updF ws tl (x : Int)) (P ++ [(x, some t)]) := by
 obtain ⟨r1, r2, r3, r4, r5, r6⟩ := H.own t x hx h1 (by omega) (by omega)
 have hact : actv L t := .inl ⟨h1, by omega⟩
 obtain ⟨_, x', hx', x1, x2⟩ := H.pos t hact
 obtain rfl : x = x' := by omega
 have hlm := List.mem_of_getLast? hl
 have hne : 0 < P.length := by cases P with | nil => simp at hl | cons => simp
 have hcP : ∀ y, (y, some t) ∉ P := fun y h => by have := (H.at h).2.2; unfold inP at this; omega
 have act' : ∀ c, actv ⟨ss', updF L.sp t 5, tr', L.no, ot'⟩ c -> actv L c := fun c hc => by
  by_cases h : c = t
  ·subst h; exact hact
  ·unfold actv at hc ⊢; simp only [hst, ZAA _ _ h] at hc; exact hc
 have w1 : ∀ y, 1 <= y -> updF ws tl (x : Int) (aO tl y) = ws (aO tl y) /\ updF ws tl (x : Int) (aS tl y) = ws (aS tl y) /\ updF ws tl (x : Int) (aN tl y) = ws (aN tl y) := fun y hy =>
  ⟨ZAA _ _ (show aO tl y ≠ tl by unfold aO; omega), ZAA _ _ (show aS tl y ≠ tl by unfold aS; omega), ZAA _ _ (show aN tl y ≠ tl by unfold aN; omega)⟩
 refine ⟨fun u => by rw [hst]; exact H.rng u, fun u => ?_, ?_, fun p hp => ?_, fun j y c hj => ?_, fun j y hj => ?_, fun c hc => ?_, fun c hc => H.pos c (act' c hc), fun c d hc hd e => H.dst c d (act' c hc) (act' d hd) e, fun c y hy s1 s2 s3 => ?_, fun c y hy s1 s2 => ?_, ?_, fun j y a z b g1 g2 => ?_, fun p hp => ?_, fun c s1 s2 => ?_⟩
 ·by_cases hu : u = t
  ·subst hu; simp only [hst, ZAC, h1]; exact ⟨by omega, by omega, by omega, by omega⟩
  ·simp only [hst, ZAA _ _ hu]; exact H.sp u
 ·rw [ZFj]
  exact List.nodup_append.2 ⟨H.nd, by simp, fun a ha b hb => by simp only [List.mem_singleton] at hb; subst hb; exact fun e => r3 (e ▸ ha)⟩
 ·simp only [List.mem_append, List.mem_singleton] at hp
  rcases hp with hp | rfl
  ·have := H.rg p hp
   rw [(w1 p.1 this.1).1]; exact this
  ·rw [(w1 x x1).1]; exact ⟨x1, x2, r4 (by omega)⟩
 ·rcases ZFG hj with h | ⟨h, e⟩
  ·have hc : c ≠ t := fun e => hcP y (e ▸ ZAK h)
   have hy1 : 1 <= y := (H.rg _ (ZAK h)).1
   simp only [hst, ZAA _ _ hc]
   rw [(w1 y hy1).2.1]; exact H.tg j y c h
  ·cases e
   simp only [hst, ZAC]
   exact ⟨htn, hx, fun h0 => by omega, fun _ => ⟨h1, by omega, by rw [(w1 x x1).2.1]; exact r5 (by omega)⟩⟩
 ·rcases ZFG hj with h | ⟨h, e⟩
  ·have hy1 : 1 <= y := (H.rg _ (ZAK h)).1
   rw [(w1 y hy1).2.1]; exact H.tn j y h
  ·cases e
 ·by_cases h : c = t
  ·subst h; exact ⟨x, List.mem_append_right _ (List.mem_cons_self ..)⟩
  ·obtain ⟨y, hy⟩ := H.inn c (by unfold inP at hc ⊢; simp only [hst, ZAA _ _ h] at hc; exact hc)
   exact ⟨y, List.mem_append_left _ hy⟩
 ·have h : c ≠ t := fun h => by subst h; simp only [ZAC] at s3; omega
  simp only [hst, ZAA _ _ h] at s1 s2 s3 ⊢
  obtain ⟨q1, q2, q3, q4, q5, q6⟩ := H.own c y hy s1 s2 s3
  have hyx : y ≠ x := fun e => h (H.dst c t (.inl ⟨s1, s2⟩) hact (by rw [show L.no c = (y : Int) from hy, hx, e]))
  obtain ⟨k1, k2, k3⟩ := w1 y (by omega)
  rw [k1, k2, k3, ZFj]
  exact ⟨q1, q2, by simp [hyx, q3], q4, q5, q6⟩
 ·have h : c ≠ t := fun h => by subst h; simp only [hst] at s1; omega
  simp only [hst, ZAA _ _ h] at s1 s2
  have hyx : y ≠ x := fun e => h (H.dst c t (.inr (.inr s1)) hact (by rw [show L.no c = (y : Int) from hy, hx, e]))
  obtain ⟨_, w, hw, y1, y2⟩ := H.pos c (.inr (.inr s1))
  have hy' : L.no c = (y : Int) := hy
  have q := H.fin c y hy s1 s2
  rw [(w1 y (by omega)).1, ZFj]
  exact ⟨by simp [hyx, q.1], q.2⟩
 ·rw [ZAC, ZMs]
 ·have g1' : P[j]? = some (y, a) := by
   rcases ZFG g1 with h | ⟨h, e⟩
   ·exact h
   ·have := ZDg g2
    simp only [List.length_append, List.length_singleton] at this; omega
  have hy1 : 1 <= y := (H.rg _ (ZAK g1')).1
  rw [(w1 y hy1).2.2]
  rcases ZFG g2 with h | ⟨h, e⟩
  ·have hb : ∀ c, b = some c -> c ≠ t := fun c hc e => by subst hc; subst e; exact hcP z (ZAK h)
   rcases H.nx j y a z b g1' h with ⟨c, c1, c2, c3, c4⟩ | ⟨c1, c2⟩
   ·exact .inl ⟨c, c1, by simp only [ZAA _ _ (hb c c1)]; exact c2, c3, by simp only [ho c (hb c c1)]; exact c4⟩
   ·exact .inr ⟨fun c hc => by simp only [ZAA _ _ (hb c hc)]; exact c1 c hc, c2⟩
  ·cases e
   have hlj : P[j]? = some (l, a0) := by rw [List.getLast?_eq_getElem?, show P.length - 1 = j by omega] at hl; exact hl
   rw [g1'] at hlj; cases hlj
   exact .inl ⟨t, rfl, by simp only [ZAC], H.lst _ hl, hot⟩
 ·simp only [List.getLast?_append, List.getLast?_singleton, Option.or_some, Option.some.injEq, Option.getD_some, Option.some_or] at hp
  subst hp
  rw [(w1 x x1).2.2]; exact r6 (by omega)
 ·have h : c ≠ t := fun h => by subst h; simp only [hst] at s1; omega
  simp only [hst, ZAA _ _ h] at s1 s2 ⊢
  obtain ⟨y, b, b1, b2, b3, b4⟩ := H.ha c s1 s2
  refine ⟨y, b, by rw [List.getElem?_append_left (ZDg b1)]; exact b1, by simp only [ho c h]; exact b2, b3, fun d hd => ?_⟩
  have h2 : d ≠ t := fun e => by subst hd; subst e; exact hcP y (ZAK b1)
  simp only [ZAA _ _ h2]; exact b4 d hd
end
theorem ZLy {n E nw t ta : Nat} (tl now : Int) (L : AL) (s : PS) (ht : t < n) : ZBD E n nw tl (t : Int) now ta L s = ZET t (ZAz E nw tl t ta now L s) := by
 unfold ZBD; rw [ZDu ht]; rfl
theorem ZBU {t : Nat} {d : Dd} {L : AL} {s : PS} (h : ZCP (L.ss.st t) d.e < 0) : ZET t (d, L, s) = (d, L, s) := by
 unfold ZET enB
 simp only [ZDK h, decide_eq_true h, Bool.not_true, pick]
theorem ZEI {t : Nat} {d : Dd} {L : AL} {s : PS} {v : Int} (h : ZCP (L.ss.st t) d.e = v) (hv : 0 <= v) : ZET t (d, L, s) = (d, ⟨enSS L.ss t d.e, updF L.sp t 0, updF L.tr t 0, L.no, updF L.ot t 0⟩, s) := by
 unfold ZET enB
 simp only [h, decide_eq_false (show ¬ v < 0 by omega), Bool.not_false, pick]
theorem ZOW {tl x : Nat} (h : tl + 3 * x <= 100000) (hx : 1 <= x) : abA tl (x : Int) = ((aS tl x : Nat) : Int) := by
 unfold abA aS
 rw [ZBa (x := 3 * (x : Int)) (by omega) (by omega), ZBa (x := (tl : Int) + 3 * (x : Int)) (by omega) (by omega), ZBa (by omega) (by omega)]
 omega
theorem ZSA {tl x : Nat} (h : tl + 3 * x <= 100000) (hx : 1 <= x) : i64w (abA tl (x : Int) + 1) = ((aN tl x : Nat) : Int) := by
 rw [ZOW h hx]; unfold aS aN; rw [ZBa (by omega) (by omega)]; omega
theorem ZSB {tl x : Nat} (h : tl + 3 * x <= 100000) (hx : 1 <= x) : i64w (abA tl (x : Int) + 2) = ((aO tl x : Nat) : Int) := by
 rw [ZOW h hx]; unfold aS aO; rw [ZBa (by omega) (by omega)]; omega
theorem ZEm {f : Nat -> Int} {i : Nat} {v : Int} (h : f i = v) : updF f i v = f := by
 funext j
 by_cases e : j = i
 ·subst e; rw [ZAC, h]
 ·rw [ZAA _ _ e]
theorem ZQs {n E nw tl t ta : Nat} {now : Int} {L : AL} {s : PS} {P : PQ} (H : AbInv n E tl L s.ws P) (hok : abOk n E L) (ht : t < n) (hn : n * E <= 512) (hx : tl + 3 * (n * E) < nw) (hnw : nw <= 4096) :
  ∃ P', AbInv n E tl (ZBD E n nw tl t now ta L s).2.1 (ZBD E n nw tl t now ta L s).2.2.ws P' /\ Mv (L.ss.st t) t (ctxs P) (ZBD E n nw tl t now ta L s).1 (ctxs P') := by
 rw [ZLy tl now L s ht]
 have hr := H.rng t
 have hsp := H.sp t
 have htl : tl < nw := by omega
 -- a node's words
 have A : ∀ x : Nat, 1 <= x -> x <= n * E -> abA tl (x : Int) = ((aS tl x : Nat) : Int) /\ i64w (abA tl (x : Int) + 1) = ((aN tl x : Nat) : Int) /\ i64w (abA tl (x : Int) + 2) = ((aO tl x : Nat) : Int) /\ aS tl x < nw /\ aN tl x < nw /\ aO tl x < nw /\ u32w (x : Int) = (x : Int) /\ i64w (x : Int) = (x : Int) := fun x x1 x2 =>
  ⟨ZOW (by omega) x1, ZSA (by omega) x1, ZSB (by omega) x1, by unfold aS; omega, by unfold aN; omega, by unfold aO; omega, by rw [ZON]; omega, ZBa (by omega) (by omega)⟩
 have nomv : L.ss.st t ≠ 1 -> L.ss.st t ≠ 3 -> Mv (L.ss.st t) t (ctxs P) (evD 0) (ctxs P) := fun h1 h3 => ⟨⟨rfl, rfl⟩, fun h => absurd h h1, fun h => absurd h h1, fun h => absurd h h3, fun _ _ => ⟨rfl, rfl, .inl rfl⟩⟩
 rcases (show L.ss.st t = 1 \/ L.ss.st t = 3 \/ L.ss.st t = 0 \/ L.ss.st t = 2 by omega) with e | e | e | e
 ·have mv0 : Mv (L.ss.st t) t (ctxs P) (evD 0) (ctxs P) := ⟨⟨rfl, rfl⟩, fun _ h => by (cases h), fun _ _ => .inl ⟨rfl, rfl⟩, fun h => by omega, fun h => absurd e h⟩
  have hst1 : L.ss.st = updF L.ss.st t 1 := (ZEm e).symm
  rcases (show L.sp t = 0 \/ L.sp t = 1 \/ L.sp t = 2 \/ L.sp t = 3 \/ L.sp t = 4 \/ L.sp t = 5 \/ L.sp t = 6 \/ L.sp t = 7 by omega) with e0 | e0 | e0 | e0 | e0 | e0 | e0 | e0
  ·obtain ⟨k0, k1⟩ := hok t ht e e0
   obtain ⟨x, hxd⟩ : ∃ x : Nat, x = t * E + (L.tr t).toNat + 1 := ⟨_, rfl⟩
   have hid : abN E t (L.tr t) = (x : Int) := by unfold abN; rw [hxd, Int.natCast_add, Int.natCast_add, Int.natCast_mul]; rfl
   have hm : (t + 1) * E <= n * E := Nat.mul_le_mul_right E ht
   rw [Nat.add_mul, Nat.one_mul] at hm
   obtain ⟨a1, a2, a3, a4, a5, a6, a7, a8⟩ := A x (by omega) (by omega)
   by_cases hz : s.ws (aO tl x) = 0
   ·have hmd : ZAz E nw tl t ta now L s = (evD 0, ⟨L.ss, updF L.sp t 1, updF L.tr t (L.tr t + 1), updF L.no t (x : Int), L.ot⟩, rdS nw ta (i64w (abA tl (abN E t (L.tr t)) + 2)) s) := by
     simp only [ZAz, e, decide_true, pick, abLk, e0, abSr, hid, a3, ZDW a6, hz]
    obtain ⟨f1, f2⟩ := H.fresh (t := t) hz (by omega) (by omega)
    rw [hmd, ZBU (by simp only [evD, e]; decide)]
    simp only [ZDf]
    refine ⟨P, H.mine ht e (by omega) rfl (fun u hu => ⟨ZAA _ _ hu, ZAA _ _ hu, rfl⟩) (ZAC _ _ _) ⟨by omega, by omega, by omega⟩ f1 f2 rfl (fun y _ _ => ⟨rfl, rfl, rfl⟩) ?_ ?_ ?_ ?_, mv0⟩
    ·simp only [ZAC]; omega
    ·simp only [ZAC]; omega
    ·simp only [ZAC]; omega
    ·simp only [ZAC]; omega
   ·have hmd : ZAz E nw tl t ta now L s = (evD (pick (decide (L.tr t + 1 = (E : Int))) 6 0), ⟨L.ss, L.sp, updF L.tr t (L.tr t + 1), updF L.no t (x : Int), L.ot⟩, rdS nw ta (i64w (abA tl (abN E t (L.tr t)) + 2)) s) := by
     simp only [ZAz, e, decide_true, pick, abLk, e0, abSr, hid, a3, ZDW a6, hz, decide_false]
    have hnc : t ∉ ctxs P := fun h => by
     obtain ⟨y, hy⟩ := ZCY.1 h
     have := (H.at hy).2.2; unfold inP at this; omega
    rw [hmd]
    by_cases hl : L.tr t + 1 = (E : Int)
    ·simp only [hl, decide_true, pick]
     rw [ZEI (v := 0) (by simp only [evD, e]; decide) (by omega)]
     have hss := ZA7 (ss := L.ss) (t := t) (e := 6) (v := 0) (by rw [e]; decide) (by omega)
     simp only [ZDf]
     exact ⟨P, H.off e0 (.inr e) (.inl rfl) hss (ZAC _ _ _) fun u hu => ⟨ZAA _ _ hu, ZAA _ _ hu, ZAA _ _ hu⟩,
      ⟨⟨rfl, rfl⟩, fun _ h => by (cases h), fun _ _ => .inr (.inr (.inr ⟨rfl, hnc, rfl⟩)), fun h => by omega, fun h => absurd e h⟩⟩
    ·simp only [hl, decide_false, pick]
     rw [ZBU (by simp only [evD, e]; decide)]
     simp only [ZDf]
     exact ⟨P, H.off e0 (.inr e) (.inr rfl) hst1 e0 fun u hu => ⟨rfl, ZAA _ _ hu, rfl⟩, mv0⟩
  ·obtain ⟨_, x, hno, x1, x2⟩ := H.pos t (.inl ⟨e, by omega⟩)
   obtain ⟨r1, r2, r3, r4, r5, r6⟩ := H.own t x hno e (by omega) (by omega)
   obtain ⟨a1, a2, a3, a4, a5, a6, a7, a8⟩ := A x x1 x2
   have hmd : ZAz E nw tl t ta now L s = (evD 0, abNx L t 2, wtS nw ta (i64w (abA tl (L.no t) + 2)) 1 s) := by
    simp only [ZAz, e, decide_true, pick, abLk, e0, Int.reduceEq, decide_false]
   rw [hmd, ZBU (by simp only [evD, e, abNx]; decide)]
   simp only [abNx, hno, a3, ZDX a6]
   refine ⟨P, H.mine ht e (by omega) rfl (fun u hu => ⟨ZAA _ _ hu, rfl, rfl⟩) hno ⟨r1, r2, x2⟩ r3 (fun u hu ha h => hu (H.dst u t ha (.inl ⟨e, by omega⟩) (h.trans hno.symm))) (ZAA _ _ (show tl ≠ aO tl x by unfold aO; omega)) (fun y y1 y2 => ⟨ZAA _ _ (show aS tl y ≠ aO tl x by unfold aS aO; omega), ZAA _ _ (show aN tl y ≠ aO tl x by unfold aN aO; omega), ZAA _ _ (show aO tl y ≠ aO tl x by unfold aO; omega)⟩) ?_ ?_ ?_ ?_, mv0⟩
   ·simp only [ZAC]; omega
   ·exact fun _ => ZAC _ _ _
   ·simp only [ZAC]; omega
   ·simp only [ZAC]; omega
  ·obtain ⟨_, x, hno, x1, x2⟩ := H.pos t (.inl ⟨e, by omega⟩)
   obtain ⟨r1, r2, r3, r4, r5, r6⟩ := H.own t x hno e (by omega) (by omega)
   obtain ⟨a1, a2, a3, a4, a5, a6, a7, a8⟩ := A x x1 x2
   have hmd : ZAz E nw tl t ta now L s = (evD 0, abNx L t 3, wtS nw ta (abA tl (L.no t)) 0 s) := by
    simp only [ZAz, e, decide_true, pick, abLk, e0, Int.reduceEq, decide_false]
   rw [hmd, ZBU (by simp only [evD, e, abNx]; decide)]
   simp only [abNx, hno, a1, ZDX a4]
   refine ⟨P, H.mine ht e (by omega) rfl (fun u hu => ⟨ZAA _ _ hu, rfl, rfl⟩) hno ⟨r1, r2, x2⟩ r3 (fun u hu ha h => hu (H.dst u t ha (.inl ⟨e, by omega⟩) (h.trans hno.symm))) (ZAA _ _ (show tl ≠ aS tl x by unfold aS; omega)) (fun y y1 y2 => ⟨ZAA _ _ (show aS tl y ≠ aS tl x by unfold aS; omega), ZAA _ _ (show aN tl y ≠ aS tl x by unfold aN aS; omega), ZAA _ _ (show aO tl y ≠ aS tl x by unfold aO aS; omega)⟩) ?_ ?_ ?_ ?_, mv0⟩
   ·simp only [ZAC]; omega
   ·intro _; rw [ZAA _ _ (show aO tl x ≠ aS tl x by unfold aO aS; omega)]; exact r4 (by omega)
   ·exact fun _ => ZAC _ _ _
   ·simp only [ZAC]; omega
  ·obtain ⟨_, x, hno, x1, x2⟩ := H.pos t (.inl ⟨e, by omega⟩)
   obtain ⟨r1, r2, r3, r4, r5, r6⟩ := H.own t x hno e (by omega) (by omega)
   obtain ⟨a1, a2, a3, a4, a5, a6, a7, a8⟩ := A x x1 x2
   have hmd : ZAz E nw tl t ta now L s = (evD 0, abNx L t 4, wtS nw ta (i64w (abA tl (L.no t) + 1)) 0 s) := by
    simp only [ZAz, e, decide_true, pick, abLk, e0, Int.reduceEq, decide_false]
   rw [hmd, ZBU (by simp only [evD, e, abNx]; decide)]
   simp only [abNx, hno, a2, ZDX a5]
   refine ⟨P, H.mine ht e (by omega) rfl (fun u hu => ⟨ZAA _ _ hu, rfl, rfl⟩) hno ⟨r1, r2, x2⟩ r3 (fun u hu ha h => hu (H.dst u t ha (.inl ⟨e, by omega⟩) (h.trans hno.symm))) (ZAA _ _ (show tl ≠ aN tl x by unfold aN; omega)) (fun y y1 y2 => ⟨ZAA _ _ (show aS tl y ≠ aN tl x by unfold aS aN; omega), ZAA _ _ (show aN tl y ≠ aN tl x by unfold aN; omega), ZAA _ _ (show aO tl y ≠ aN tl x by unfold aO aN; omega)⟩) ?_ ?_ ?_ ?_, mv0⟩
   ·simp only [ZAC]; omega
   ·intro _; rw [ZAA _ _ (show aO tl x ≠ aN tl x by unfold aO aN; omega)]; exact r4 (by omega)
   ·intro _; rw [ZAA _ _ (show aS tl x ≠ aN tl x by unfold aS aN; omega)]; exact r5 (by omega)
   ·exact fun _ => ZAC _ _ _
  ·obtain ⟨_, x, hno, x1, x2⟩ := H.pos t (.inl ⟨e, by omega⟩)
   obtain ⟨r1, r2, r3, r4, r5, r6⟩ := H.own t x hno e (by omega) (by omega)
   obtain ⟨a1, a2, a3, a4, a5, a6, a7, a8⟩ := A x x1 x2
   have hnc : t ∉ ctxs P := fun h => by
    obtain ⟨y, hy⟩ := ZCY.1 h
    have := (H.at hy).2.2; unfold inP at this; omega
   cases hl : P.getLast? with
   | none =>
    obtain rfl := List.getLast?_eq_none_iff.1 hl
    have ht0 : s.ws tl = 0 := H.tail
    have i0 : i64w 0 = 0 := ZBa (by omega) (by omega)
    have hmd : ZAz E nw tl t ta now L s = (⟨1, true, false, false⟩, ⟨L.ss, L.sp, L.tr, L.no, updF L.ot t 0⟩, wtS nw ta tl (u32w (L.no t)) s) := by
     simp only [ZAz, e, decide_true, pick, abLk, e0, Int.reduceEq, decide_false, ZDW htl, ht0, i0]
    have hss := ZA7 (ss := L.ss) (t := t) (e := 1) (v := 2) (by rw [e]; decide) (by omega)
    rw [hmd, ZEI (v := 2) (by simp only [e]; decide) (by omega)]
    simp only [hno, a7, ZDX htl]
    refine ⟨[(x, some t)], H.queue0 ht e e0 hno hss fun u hu => by rw [ZAA _ _ hu, ZAA _ _ hu], ⟨⟨rfl, rfl⟩, fun _ _ => ⟨hnc, rfl, .inr ⟨rfl, rfl⟩⟩, fun _ h => by (cases h), fun h => by omega, fun h => absurd e h⟩⟩
   | some p =>
    obtain ⟨l, b⟩ := p
    have hlr := H.rg _ (List.mem_of_getLast? hl)
    simp only at hlr
    have ht0 : s.ws tl = (l : Int) := by rw [H.tail]; unfold ZAf; rw [hl]
    have i0 : i64w (l : Int) = (l : Int) := ZBa (by omega) (by omega)
    have hlz : ¬ (l : Int) = 0 := by omega
    have hmd : ZAz E nw tl t ta now L s = (⟨0, true, false, false⟩, ⟨L.ss, updF L.sp t 5, L.tr, L.no, updF L.ot t (l : Int)⟩, wtS nw ta tl (u32w (L.no t)) s) := by
     simp only [ZAz, e, decide_true, pick, abLk, e0, Int.reduceEq, decide_false, ZDW htl, ht0, i0, hlz]
    rw [hmd, ZBU (by simp only [e]; decide)]
    simp only [hno, a7, ZDX htl]
    refine ⟨P ++ [(x, some t)], H.queue1 ht e e0 hno hl rfl (fun u hu => ZAA _ _ hu) (ZAC _ _ _), ⟨⟨rfl, rfl⟩, fun _ _ => ⟨hnc, ZOU P x t, .inl rfl⟩, fun _ h => by (cases h), fun h => by omega, fun h => absurd e h⟩⟩
  ·obtain ⟨i, x, hg, hno⟩ := H.place (c := t) (.inl ⟨e, by omega⟩)
   obtain ⟨x1, x2, x3⟩ := H.rg _ (ZAK hg)
   simp only at x1 x2 x3
   obtain ⟨a1, a2, a3, a4, a5, a6, a7, a8⟩ := A x x1 x2
   have hi : i ≠ 0 := fun h => by have := (H.tg i x t hg).2.2.1 h; omega
   obtain ⟨p, hp⟩ : ∃ p, P[i - 1]? = some p := ⟨P[i - 1]'(by have := ZDg hg; omega), List.getElem?_eq_getElem _⟩
   obtain ⟨p, a⟩ := p
   obtain ⟨p1, p2, p3⟩ := H.rg _ (ZAK hp)
   simp only at p1 p2 p3
   obtain ⟨b1, b2, b3, b4, b5, b6, b7, b8⟩ := A p p1 p2
   have hg' : P[i - 1 + 1]? = some (x, some t) := by rw [show i - 1 + 1 = i by omega]; exact hg
   have hot : L.ot t = (p : Int) := by
    rcases H.nx _ p a x (some t) hp hg' with ⟨c, c1, c2, c3, c4⟩ | ⟨c1, c2⟩
    ·cases c1; exact c4
    ·have := c1 t rfl; omega
   have hmd : ZAz E nw tl t ta now L s = (evD 0, abNx L t 6, wtS nw ta (i64w (abA tl (L.ot t) + 1)) (u32w (L.no t)) s) := by
    simp only [ZAz, e, decide_true, pick, abLk, e0, Int.reduceEq, decide_false]
   rw [hmd, ZBU (by simp only [evD, e, abNx]; decide)]
   simp only [abNx, hot, hno, a7, b2, ZDX b5]
   exact ⟨P, H.link hp hg' e0, mv0⟩
  ·obtain ⟨i, x, hg, hno⟩ := H.place (c := t) (.inl ⟨e, by omega⟩)
   obtain ⟨x1, x2, x3⟩ := H.rg _ (ZAK hg)
   simp only at x1 x2 x3
   obtain ⟨a1, a2, a3, a4, a5, a6, a7, a8⟩ := A x x1 x2
   by_cases hz : s.ws (aS tl x) = 0
   ·by_cases hlate : ZHY L.ss.dl t now = true
    ·have hmd : ZAz E nw tl t ta now L s = (evD 0, abNx L t 7, rdS nw ta (abA tl (L.no t)) s) := by
      simp only [ZAz, e, decide_true, pick, abLk, e0, Int.reduceEq, decide_false, hno, a1, ZDW a4, hz, hlate, Bool.and_true]
     rw [hmd, ZBU (by simp only [evD, e, abNx]; decide)]
     simp only [abNx, ZDf]
     exact ⟨P, H.stay hg hst1 (fun _ _ => rfl) (by omega) (.inl ⟨rfl, by omega, e, by omega⟩) (by omega), mv0⟩
    ·have hlate : ZHY L.ss.dl t now = false := by simpa using hlate
     have hmd : ZAz E nw tl t ta now L s = (evD 0, L, rdS nw ta (abA tl (L.no t)) s) := by
      simp only [ZAz, e, decide_true, pick, abLk, e0, Int.reduceEq, decide_false, hno, a1, ZDW a4, hz, hlate, Bool.and_false]
     rw [hmd, ZBU (by simp only [evD, e]; decide)]
     simp only [ZDf]
     exact ⟨P, H, mv0⟩
   ·have hi : i = 0 := by
     by_cases h : i = 0
     ·exact h
     ·exact absurd ((H.tg i x t hg).2.2.2 h).2.2 hz
    subst hi
    have hmd : ZAz E nw tl t ta now L s = (evD 1, L, rdS nw ta (abA tl (L.no t)) s) := by
     simp only [ZAz, e, decide_true, pick, abLk, e0, Int.reduceEq, decide_false, hno, a1, ZDW a4, hz, Bool.false_and]
    have hss := ZA7 (ss := L.ss) (t := t) (e := 1) (v := 2) (by rw [e]; decide) (by omega)
    rw [hmd, ZEI (v := 2) (by simp only [evD, e]; decide) (by omega)]
    simp only [ZDf]
    exact ⟨P, H.stay hg hss (fun u hu => ZAA _ _ hu) (by omega) (.inr (.inl ⟨rfl, rfl, rfl⟩)) (by omega), ⟨⟨rfl, rfl⟩, fun _ h => by (cases h), fun _ _ => .inr (.inl ⟨rfl, ZD2 hg, rfl⟩), fun h => by omega, fun h => absurd e h⟩⟩
  ·obtain ⟨i, x, hg, hno⟩ := H.place (c := t) (.inl ⟨e, by omega⟩)
   obtain ⟨x1, x2, x3⟩ := H.rg _ (ZAK hg)
   simp only at x1 x2 x3
   obtain ⟨a1, a2, a3, a4, a5, a6, a7, a8⟩ := A x x1 x2
   by_cases hz : s.ws (aS tl x) = 0
   ·have hi : i ≠ 0 := fun h => by
     have := (H.tg i x t hg).2.2.1 h
     omega
    have hmd : ZAz E nw tl t ta now L s = (evD 2, L, casS nw ta (abA tl (L.no t)) 0 2 s) := by
     simp only [ZAz, e, decide_true, pick, abLk, e0, Int.reduceEq, decide_false, hno, a1, ZJi a4, hz]
    have hss := ZA7 (ss := L.ss) (t := t) (e := 2) (v := 0) (by rw [e]; decide) (by omega)
    rw [hmd, ZEI (v := 0) (by simp only [evD, e]; decide) (by omega)]
    simp only [hno, a1, ZHc a4, hz, decide_true, pick]
    have hnd := H.qst.nd
    exact ⟨P.set i (x, none), H.quit hg hi (by omega) hss fun u hu => ZAA _ _ hu, ⟨⟨rfl, rfl⟩, fun _ h => by (cases h), fun _ _ => .inr (.inr (.inl ⟨rfl, ZCY.2 ⟨x, ZAK hg⟩, ZIQ hg hnd⟩)), fun h => by omega, fun h => absurd e h⟩⟩
   ·have hi : i = 0 := by
     by_cases h : i = 0
     ·exact h
     ·exact absurd ((H.tg i x t hg).2.2.2 h).2.2 hz
    subst hi
    have hmd : ZAz E nw tl t ta now L s = (evD 1, L, casS nw ta (abA tl (L.no t)) 0 2 s) := by
     simp only [ZAz, e, decide_true, pick, abLk, e0, Int.reduceEq, decide_false, hno, a1, ZJi a4, hz]
    have hss := ZA7 (ss := L.ss) (t := t) (e := 1) (v := 2) (by rw [e]; decide) (by omega)
    rw [hmd, ZEI (v := 2) (by simp only [evD, e]; decide) (by omega)]
    simp only [hno, a1, ZHc a4, hz, decide_false, pick]
    exact ⟨P, H.stay hg hss (fun u hu => ZAA _ _ hu) (by omega) (.inr (.inl ⟨rfl, rfl, rfl⟩)) (by omega), ⟨⟨rfl, rfl⟩, fun _ h => by (cases h), fun _ _ => .inr (.inl ⟨rfl, ZD2 hg, rfl⟩), fun h => by omega, fun h => absurd e h⟩⟩
 ·have mv0 : Mv (L.ss.st t) t (ctxs P) (evD 0) (ctxs P) := ⟨⟨rfl, rfl⟩, fun h => by omega, fun h => by omega, fun _ => ⟨rfl, .inl rfl, .inl rfl⟩, fun _ h => absurd e h⟩
  have hst3 : L.ss.st = updF L.ss.st t 3 := (ZEm e).symm
  by_cases e5 : L.sp t = 5
  ·obtain ⟨_, x, hno, x1, x2⟩ := H.pos t (.inr (.inr e))
   obtain ⟨a1, a2, a3, a4, a5, a6, a7, a8⟩ := A x x1 x2
   have hmd : ZAz E nw tl t ta now L s = (evD 3, L, wtS nw ta (i64w (abA tl (L.no t) + 2)) 0 s) := by
    simp only [ZAz, e, Int.reduceEq, decide_true, decide_false, pick, abUl, e5, Bool.or_self]
   have hss := ZA7 (ss := L.ss) (t := t) (e := 3) (v := 0) (by rw [e]; decide) (by omega)
   have hnc : t ∉ ctxs P := fun h => by
    obtain ⟨y, hy⟩ := ZCY.1 h
    have := (H.at hy).2.2; unfold inP at this; omega
   rw [hmd, ZEI (v := 0) (by simp only [evD, e]; decide) (by omega)]
   simp only [hno, a3, ZDX a6]
   exact ⟨P, H.done e e5 hno hss fun u hu => ZAA _ _ hu, ⟨⟨rfl, rfl⟩, fun h => by omega, fun h => by omega, fun _ => ⟨rfl, .inl rfl, .inr ⟨rfl, hnc⟩⟩, fun _ h => absurd e h⟩⟩
  obtain ⟨x, hg, hno⟩ := H.lead (c := t) (.inr ⟨e, by omega⟩)
  obtain ⟨x1, x2, x3⟩ := H.rg _ (ZAK hg)
  simp only at x1 x2 x3
  obtain ⟨a1, a2, a3, a4, a5, a6, a7, a8⟩ := A x x1 x2
  have hh := ZD2 hg
  rcases (show (L.sp t = 0 \/ L.sp t = 2) \/ L.sp t = 1 \/ L.sp t = 3 \/ L.sp t = 4 by omega) with e0 | e0 | e0 | e0
  ·have hor : (decide (L.sp t = 0) || decide (L.sp t = 2)) = true := by rcases e0 with h | h <;> simp [h]
   have hmd : ZAz E nw tl t ta now L s = (evD 0, ⟨L.ss, pick (decide (i64w (s.ws (aN tl x)) = 0)) (pick (decide (L.sp t = 0)) (updF L.sp t 1) L.sp) (updF L.sp t 3), L.tr, L.no, updF L.ot t (i64w (s.ws (aN tl x)))⟩, rdS nw ta (i64w (abA tl (L.no t) + 1)) s) := by
    simp only [ZAz, e, Int.reduceEq, decide_true, decide_false, pick, abUl, hor, hno, a2, ZDW a5]
   rw [hmd, ZBU (by simp only [evD, e]; decide)]
   simp only [ZDf]
   cases hq1 : P[1]? with
   | none =>
    have hl : P.getLast? = some (x, some t) := by
     have h1 := ZDg hg
     have h2 := List.getElem?_eq_none_iff.1 hq1
     rw [List.getLast?_eq_getElem?, show P.length - 1 = 0 by omega]; exact hg
    have hz := H.lst _ hl
    simp only at hz
    have i0 : i64w 0 = 0 := ZBa (by omega) (by omega)
    simp only [hz, i0, decide_true, pick]
    rcases e0 with h | h
    ·simp only [h, decide_true]
     exact ⟨P, H.stay hg hst3 (fun u hu => ZAA _ _ hu) (by omega) (.inr (.inr ⟨rfl, by omega, rfl⟩)) (by omega), mv0⟩
    ·simp only [h, Int.reduceEq, decide_false]
     have := H.stay hg hst3 (w := 2) (tr' := L.tr) (ot' := updF L.ot t 0) (fun u hu => ZAA _ _ hu) (by omega) (.inr (.inr ⟨rfl, by omega, rfl⟩)) (by omega)
     rw [ZEm h] at this
     exact ⟨P, this, mv0⟩
   | some p =>
    obtain ⟨y, b⟩ := p
    obtain ⟨y1, y2, y3⟩ := H.rg _ (ZAK hq1)
    simp only at y1 y2 y3
    obtain ⟨b1, b2, b3, b4, b5, b6, b7, b8⟩ := A y y1 y2
    rcases H.nx 0 x (some t) y b hg hq1 with ⟨c, c1, c2, c3, c4⟩ | ⟨c1, c2⟩
    ·have i0 : i64w 0 = 0 := ZBa (by omega) (by omega)
     simp only [c3, i0, decide_true, pick]
     rcases e0 with h | h
     ·simp only [h, decide_true]
      exact ⟨P, H.stay hg hst3 (fun u hu => ZAA _ _ hu) (by omega) (.inr (.inr ⟨rfl, by omega, rfl⟩)) (by omega), mv0⟩
     ·simp only [h, Int.reduceEq, decide_false]
      have := H.stay hg hst3 (w := 2) (tr' := L.tr) (ot' := updF L.ot t 0) (fun u hu => ZAA _ _ hu) (by omega) (.inr (.inr ⟨rfl, by omega, rfl⟩)) (by omega)
      rw [ZEm h] at this
      exact ⟨P, this, mv0⟩
    ·have hyz : ¬ (y : Int) = 0 := by omega
     simp only [c2, b8, hyz, decide_false, pick]
     exact ⟨P, H.stay hg hst3 (fun u hu => ZAA _ _ hu) (by omega) (.inr (.inr ⟨rfl, by omega, rfl⟩)) (fun _ _ => ⟨y, b, hq1, ZAC _ _ _, by omega, c1⟩), mv0⟩
  ·have hmd : ZAz E nw tl t ta now L s = (evD 0, abNx L t (pick (decide (s.ws tl = (x : Int))) 5 2), casS nw ta tl (x : Int) 0 s) := by
    simp only [ZAz, e, Int.reduceEq, decide_true, decide_false, pick, abUl, e0, ZJi htl, Bool.or_self, hno, a7]
   rw [hmd, ZBU (by simp only [evD, e, abNx]; decide)]
   simp only [abNx, ZHc htl]
   by_cases hz : s.ws tl = (x : Int)
   ·simp only [hz, decide_true, pick]
    have hP : P = [(x, some t)] := by
     have h1 := H.tail
     rw [hz] at h1
     unfold ZAf at h1
     cases h2 : P.getLast? with
     | none => rw [h2] at h1; simp only at h1; omega
     | some p =>
      rw [h2] at h1
      simp only at h1
      rw [List.getLast?_eq_getElem?] at h2
      obtain ⟨px, pb⟩ := p
      have : px = x := by simp only at h1; omega
      subst this
      obtain ⟨h3, rfl⟩ := pidx H.nd h2 hg
      cases P with
      | nil => simp at hg
      | cons q r =>
       simp only [List.getElem?_cons_zero, Option.some.injEq] at hg
       subst hg
       simp only [List.length_cons, Nat.add_sub_cancel] at h3
       rw [List.length_eq_zero_iff.1 h3]
    subst hP
    exact ⟨[], H.leave rfl e (by omega), ⟨⟨rfl, rfl⟩, fun h => by omega, fun h => by omega, fun _ => ⟨rfl, .inr ⟨rfl, rfl⟩, .inl rfl⟩, fun _ h => absurd e h⟩⟩
   ·simp only [hz, decide_false, pick]
    exact ⟨P, H.stay hg hst3 (fun _ _ => rfl) (by omega) (.inr (.inr ⟨rfl, by omega, rfl⟩)) (by omega), mv0⟩
  ·obtain ⟨y, b, b1, b2, b3, b4⟩ := H.ha t e (.inl e0)
   obtain ⟨y1, y2, y3⟩ := H.rg _ (ZAK b1)
   simp only at y1 y2 y3
   obtain ⟨c1, c2, c3, c4, c5, c6, c7, c8⟩ := A y y1 y2
   have hmd : ZAz E nw tl t ta now L s = (evD 0, abNx L t (pick (decide (s.ws (aS tl y) = 0)) 5 4), casS nw ta (abA tl (L.ot t)) 0 1 s) := by
    simp only [ZAz, e, Int.reduceEq, decide_true, decide_false, pick, abUl, e0, Bool.or_self, b2, c1, ZJi c4]
   rw [hmd, ZBU (by simp only [evD, e, abNx]; decide)]
   simp only [abNx, b2, c1, ZHc c4]
   by_cases hz : s.ws (aS tl y) = 0
   ·simp only [hz, decide_true, pick]
    cases b with
    | none => have := (H.tn 1 y b1).2; omega
    | some d =>
     obtain ⟨r, hP⟩ : ∃ r, P = (x, some t) :: (y, some d) :: r := by
      cases P with
      | nil => simp at hg
      | cons q r =>
       cases r with
       | nil => simp at b1
       | cons q2 r =>
        simp only [List.getElem?_cons_zero, Option.some.injEq] at hg
        simp only [List.getElem?_cons_succ, List.getElem?_cons_zero, Option.some.injEq] at b1
        exact ⟨r, by rw [hg, b1]⟩
     subst hP
     exact ⟨(y, some d) :: r, H.hand rfl e (by omega) (b4 d rfl), ⟨⟨rfl, rfl⟩, fun h => by omega, fun h => by omega, fun _ => ⟨rfl, .inr ⟨rfl, rfl⟩, .inl rfl⟩, fun _ h => absurd e h⟩⟩
   ·simp only [hz, decide_false, pick]
    have hbn : b = none := by
     cases b with
     | none => rfl
     | some d => exact absurd ((H.tg 1 y d b1).2.2.2 (by omega)).2.2 hz
    exact ⟨P, H.stay hg hst3 (fun _ _ => rfl) (by omega) (.inr (.inr ⟨rfl, by omega, rfl⟩)) (fun _ _ => ⟨y, b, b1, b2, fun _ => hbn, b4⟩), mv0⟩
  ·obtain ⟨y, b, b1, b2, b3, b4⟩ := H.ha t e (.inr e0)
   obtain rfl := b3 e0
   have hmd : ZAz E nw tl t ta now L s = (evD 0, ⟨L.ss, updF L.sp t 0, updF L.tr t 0, updF L.no t (L.ot t), updF L.ot t 0⟩, wtS nw ta (i64w (abA tl (L.no t) + 2)) 0 s) := by
    simp only [ZAz, e, Int.reduceEq, decide_true, decide_false, pick, abUl, e0, Bool.or_self]
   rw [hmd, ZBU (by simp only [evD, e]; decide)]
   simp only [b2, hno, a3, ZDX a6]
   obtain ⟨r, hP⟩ : ∃ r, P = (x, some t) :: (y, none) :: r := by
    cases P with
    | nil => simp at hg
    | cons q r =>
     cases r with
     | nil => simp at b1
     | cons q2 r =>
      simp only [List.getElem?_cons_zero, Option.some.injEq] at hg
      simp only [List.getElem?_cons_succ, List.getElem?_cons_zero, Option.some.injEq] at b1
      exact ⟨r, by rw [hg, b1]⟩
   subst hP
   exact ⟨(y, some t) :: r, H.skip rfl e (by omega) fun u hu => ZAA _ _ hu, mv0⟩
 all_goals
  have hmd : ZAz E nw tl t ta now L s = (evD 0, L, s) := by
   simp only [ZAz, e, Int.reduceEq, decide_true, decide_false, pick]
  rw [hmd, ZBU (by simp only [evD, e]; decide)]
  exact ⟨P, H, nomv (by omega) (by omega)⟩
theorem ZQt {n nx ow : Nat} {L : FL} {ws : Nat -> Int} {q : List Nat} {o : Nat} (H : FlInv n nx ow L ws q o) {t : Nat} (h : L.ss.st t = 0) (dl : Nat -> Int) : FlInv n nx ow ⟨⟨updF L.ss.st t 1, dl⟩, L.nu, L.dr⟩ ws q o := by
 refine ⟨H.qs.out (H.qs.idle t h) (.inr rfl), H.dr, H.now, H.nxt, H.nu, fun u h3 => ?_⟩
 by_cases e : u = t
 ·subst e; simp only [ZAC] at h3; omega
 ·simp only [ZAA _ _ e] at h3; exact H.ul u h3
theorem ZQu {n nx ow : Nat} {L : FL} {ws : Nat -> Int} {q : List Nat} {o : Nat} (H : FlInv n nx ow L ws q o) {t : Nat} (h : L.ss.st t = 2) {v : Int} (hv : v = 3 \/ v = 4) (dl : Nat -> Int) : FlInv n nx ow ⟨⟨updF L.ss.st t v, dl⟩, L.nu, L.dr⟩ ws q o := by
 have hh := H.qs.hold t (.inl h)
 refine ⟨H.qs.grant hh (by omega), H.dr, H.now, H.nxt, H.nu, fun u h3 => ?_⟩
 by_cases e : u = t
 ·subst e; exact ZBT hh
 ·simp only [ZAA _ _ e] at h3; exact H.ul u h3
theorem ZQv {n tl m : Nat} {L : SL} {ws : Nat -> Int} {q : List Nat} {o : Nat} (H : SlInv n tl m L ws q o) {t : Nat} (h : L.ss.st t = 0) (dl : Nat -> Int) : SlInv n tl m ⟨⟨updF L.ss.st t 1, dl⟩, L.nu, L.sp⟩ ws q o := by
 have hq := H.qs.idle t h
 have h0 := (H.sp t).2.1 h
 refine ⟨H.qs.out hq (.inr rfl), fun u => ?_, fun u => ?_, H.nxt, H.nu, fun j hj => ?_⟩
 ·by_cases e : u = t
  ·subst e; simp [ZAC, h0, hq]
  ·simp only [ZAA _ _ e]; exact H.on u
 ·by_cases e : u = t
  ·subst e; simp only [ZAC, h0]; exact ⟨by simp, by simp, by simp⟩
  ·simp only [ZAA _ _ e]; exact H.sp u
 ·rw [H.fl j hj]
  refine and_congr_right fun _ => ⟨fun k u hu => ?_, fun k u hu => ?_⟩
  ·have e : u ≠ t := fun e => hq (e ▸ ZBT hu)
   simp only [ZAA _ _ e]; exact k u hu
  ·have e : u ≠ t := fun e => hq (e ▸ ZBT hu)
   have := k u hu
   simp only [ZAA _ _ e] at this; exact this
theorem ZQw {n tl m : Nat} {L : SL} {ws : Nat -> Int} {q : List Nat} {o : Nat} (H : SlInv n tl m L ws q o) {t : Nat} (h : L.ss.st t = 2) (dl : Nat -> Int) : SlInv n tl m ⟨⟨updF L.ss.st t 3, dl⟩, L.nu, L.sp⟩ ws q o := by
 have hh := H.qs.hold t (.inl h)
 refine ⟨H.qs.grant hh (by omega), fun u => ?_, fun u => ?_, H.nxt, H.nu, fun j hj => ?_⟩
 ·by_cases e : u = t
  ·subst e; simp [ZAC, ZBT hh]
  ·simp only [ZAA _ _ e]; exact H.on u
 ·by_cases e : u = t
  ·subst e; simp only [ZAC]; exact ⟨(H.sp u).1, by omega, by omega⟩
  ·simp only [ZAA _ _ e]; exact H.sp u
 ·rw [H.fl j hj]
  refine and_congr_right fun _ => ⟨fun k u hu => ?_, fun k u hu => ?_⟩
  ·rw [hh] at hu; cases hu; have := k t hh; omega
  ·rw [hh] at hu; cases hu; have := k t hh; simp only [ZAC] at this; omega
theorem ZQx {n tl : Nat} {L : CL} {ws : Nat -> Int} {q : List Nat} {f : Int} (H : ClInv n tl L ws q f) {t : Nat} (h : L.ss.st t = 0) (dl : Nat -> Int) : ClInv n tl ⟨⟨updF L.ss.st t 1, dl⟩, L.no, L.ah, L.sp⟩ ws q f := by
 have hq := H.qs.idle t h
 have h0 := (H.sp t).2 h
 refine ⟨H.qs.out hq (.inr rfl), fun u => ?_, fun u => ?_, H.no, H.ni, H.fr, H.tail, H.ah, fun u hu hh => ?_⟩
 ·by_cases e : u = t
  ·subst e; simp [ZAC, h0, hq]
  ·simp only [ZAA _ _ e]; exact H.on u
 ·by_cases e : u = t
  ·subst e; simp [ZAC, h0]
  ·simp only [ZAA _ _ e]; exact H.sp u
 ·by_cases e : u = t
  ·subst e; simp only [ZAC, h0] at hh; exact H.fl u hu (.inl (hh.resolve_right (by omega)))
  ·simp only [ZAA _ _ e] at hh; exact H.fl u hu hh
theorem ZQy {n tl : Nat} {L : CL} {ws : Nat -> Int} {q : List Nat} {f : Int} (H : ClInv n tl L ws q f) {t : Nat} (h : L.ss.st t = 2) {v : Int} (hv : v = 3 \/ v = 4) (dl : Nat -> Int) : ClInv n tl ⟨⟨updF L.ss.st t v, dl⟩, L.no, L.ah, L.sp⟩ ws q f := by
 have hh := H.qs.hold t (.inl h)
 refine ⟨H.qs.grant hh (by omega), fun u => ?_, fun u => ?_, H.no, H.ni, H.fr, H.tail, H.ah, fun u hu hh2 => ?_⟩
 ·by_cases e : u = t
  ·subst e; simp only [ZAC, ZBT hh, true_iff]; omega
  ·simp only [ZAA _ _ e]; exact H.on u
 ·by_cases e : u = t
  ·subst e; simp only [ZAC]; exact ⟨(H.sp u).1, by omega⟩
  ·simp only [ZAA _ _ e]; exact H.sp u
 ·by_cases e : u = t
  ·subst e; exact H.fl u hu (.inl (ZBT hh))
  ·simp only [ZAA _ _ e] at hh2; exact H.fl u hu hh2
theorem ZQz {n tl : Nat} {L : ML} {ws : Nat -> Int} {q : List Nat} (H : McInv n tl L ws q) {t : Nat} (h : L.ss.st t = 0) (dl : Nat -> Int) : McInv n tl ⟨⟨updF L.ss.st t 1, dl⟩, L.sp, L.ot⟩ ws q := by
 have hq := H.qs.idle t h
 have h0 := (H.sp t).2.2.1 (.inl h)
 refine ⟨H.qs.out hq (.inr rfl), fun u => ?_, fun u => ?_, H.tail, fun u hu h1 h2 => ?_, H.lst, fun i u v hu hv => ?_, fun u hu h1 => ?_, fun u h1 h2 => ?_⟩
 ·by_cases e : u = t
  ·subst e; simp [ZAC, h0, hq]
  ·simp only [ZAA _ _ e]; exact H.on u
 ·by_cases e : u = t
  ·subst e; simp [ZAC, h0]
  ·simp only [ZAA _ _ e]; exact H.sp u
 ·by_cases e : u = t
  ·subst e; have : L.sp u = 1 := h2; omega
  ·simp only [ZAA _ _ e] at h1; exact H.em u hu h1 h2
 ·have e : v ≠ t := fun e => hq (e ▸ ZA8 hv)
  simp only [ZAA _ _ e]; exact H.nx i u v hu hv
 ·have e : u ≠ t := fun e => hq (e ▸ ZA8 hu)
  simp only [ZAA _ _ e] at h1; exact H.hd u hu h1
 ·by_cases e : u = t
  ·subst e; simp only [ZAC] at h1; omega
  ·simp only [ZAA _ _ e] at h1; exact H.ha u h1 h2
theorem ZQ0 {n tl : Nat} {L : ML} {ws : Nat -> Int} {q : List Nat} (H : McInv n tl L ws q) {t : Nat} (h : L.ss.st t = 2) {v : Int} (hv : v = 3 \/ v = 4) (dl : Nat -> Int) : McInv n tl ⟨⟨updF L.ss.st t v, dl⟩, L.sp, L.ot⟩ ws q := by
 have hh := H.qs.hold t (.inl h)
 have hg := ZB9.1 hh
 have h0 := (H.sp t).2.2.1 (.inr (.inl h))
 refine ⟨H.qs.grant hh (by omega), fun u => ?_, fun u => ?_, H.tail, fun u hu h1 h2 => ?_, H.lst, fun i u w hu hw => ?_, fun u hu h1 => ?_, fun u h1 h2 => ?_⟩
 ·by_cases e : u = t
  ·subst e; simp only [ZAC, ZBT hh, true_iff]; omega
  ·simp only [ZAA _ _ e]; exact H.on u
 ·by_cases e : u = t
  ·subst e; simp only [ZAC, h0]; exact ⟨by omega, by omega, fun _ => trivial, by omega⟩
  ·simp only [ZAA _ _ e]; exact H.sp u
 ·by_cases e : u = t
  ·subst e; simp only [ZAC] at h1; omega
  ·simp only [ZAA _ _ e] at h1; exact H.em u hu h1 h2
 ·have e : w ≠ t := fun e => by subst e; have := ZCQ H.qs.nd hw hg; omega
  simp only [ZAA _ _ e]; exact H.nx i u w hu hw
 ·rw [hg] at hu; cases hu
  simp only [ZAC] at h1; omega
 ·by_cases e : u = t
  ·subst e; have : L.sp u = 3 := h2; omega
  ·simp only [ZAA _ _ e] at h1; exact H.ha u h1 h2
def K1.Q (n nw : Nat) (ws : Nat -> Int) (q : List Nat) : K1 -> Prop
 | .fl nx ow L => ∃ a b o : Nat, nx = a /\ ow = b /\ a ≠ b /\ a < nw /\ b < nw /\ FlInv n a b L ws q o
 | .sl tail m L => ∃ tl o : Nat, tail = tl /\ ZBW m /\ n <= m /\ tl + m < nw /\ SlInv n tl m L ws q o
 | .cl tail L => ∃ (tl : Nat) (f : Int), tail = tl /\ tl + n + 1 < nw /\ ClInv n tl L ws q f
 | .mc tail L => ∃ tl : Nat, tail = tl /\ tl + 2 * n < nw /\ McInv n tl L ws q
 | .ab E tail L => ∃ (tl : Nat) (P : PQ), tail = tl /\ n * E <= 512 /\ tl + 3 * (n * E) < nw /\ q = ctxs P /\ AbInv n E tl L ws P
 | .hi .. => False
theorem K1.Q_qst {S : K1} {n nw : Nat} {ws : Nat -> Int} {q : List Nat} (H : S.Q n nw ws q) : QSt S.ss.st n q := by
 cases S with
 | fl nx ow L => obtain ⟨a, b, o, _, _, _, _, _, h⟩ := H; exact h.qs
 | sl tail m L => obtain ⟨a, o, _, _, _, _, h⟩ := H; exact h.qs
 | cl tail L => obtain ⟨a, o, _, _, h⟩ := H; exact h.qs
 | mc tail L => obtain ⟨a, _, _, h⟩ := H; exact h.qs
 | ab E tail L => obtain ⟨a, P, _, _, _, rfl, h⟩ := H; exact h.qst
 | hi tail L => exact H.elim
theorem K1.Q_step {S : K1} {n nw : Nat} {s : PS} {q : List Nat} (H : S.Q n nw s.ws q) (hi : S.inv n) {t ta : Nat} (now : Int) (ht : t < n) (hn : n <= 64) (hnw : nw <= 4096) :
  ∃ q', (S.step n nw t now ta s).2.1.Q n nw (S.step n nw t now ta s).2.2.ws q' /\ Mv (S.ss.st t) t q (S.step n nw t now ta s).1 q' := by
 cases S with
 | fl nx ow L =>
  obtain ⟨a, b, o, rfl, rfl, hne, ha, hb, h⟩ := H
  obtain ⟨q', o', h1, h2, _⟩ := ZQo (ta := ta) h ht hn ha hb hne
  exact ⟨q', ⟨a, b, o', rfl, rfl, hne, ha, hb, h1⟩, h2⟩
 | sl tail m L =>
  obtain ⟨tl, o, rfl, hm, hnm, hx, h⟩ := H
  obtain ⟨q', o', h1, h2⟩ := ZQp (ta := ta) h ht hm hnm hx
  exact ⟨q', ⟨tl, o', rfl, hm, hnm, hx, h1⟩, h2⟩
 | cl tail L =>
  obtain ⟨tl, f, rfl, hx, h⟩ := H
  obtain ⟨q', f', h1, h2, _⟩ := ZQq (ta := ta) h ht hn hx hnw
  exact ⟨q', ⟨tl, f', rfl, hx, h1⟩, h2⟩
 | mc tail L =>
  obtain ⟨tl, rfl, hx, h⟩ := H
  obtain ⟨q', h1, h2, _⟩ := ZQr (ta := ta) h ht hn hx hnw
  exact ⟨q', ⟨tl, rfl, hx, h1⟩, h2⟩
 | ab E tail L =>
  obtain ⟨tl, P, rfl, h5, hx, rfl, h⟩ := H
  obtain ⟨P', h1, h2⟩ := ZQs (ta := ta) (now := now) h hi.1.2 ht h5 hx hnw
  exact ⟨ctxs P', ⟨tl, P', rfl, h5, hx, rfl, h1⟩, h2⟩
 | hi tail L => exact H.elim
theorem K1.Q_set1 {S : K1} {n nw : Nat} {ws : Nat -> Int} {q : List Nat} (H : S.Q n nw ws q) {t : Nat} (h : S.ss.st t = 0) (dl : Nat -> Int) : (S.set (updF S.ss.st t 1) dl).Q n nw ws q := by
 cases S with
 | fl nx ow L => obtain ⟨a, b, o, h1, h2, h3, h4, h5, h6⟩ := H; exact ⟨a, b, o, h1, h2, h3, h4, h5, ZQt h6 h dl⟩
 | sl tail m L => obtain ⟨a, o, h1, h2, h3, h4, h5⟩ := H; exact ⟨a, o, h1, h2, h3, h4, ZQv h5 h dl⟩
 | cl tail L => obtain ⟨a, o, h1, h2, h3⟩ := H; exact ⟨a, o, h1, h2, ZQx h3 h dl⟩
 | mc tail L => obtain ⟨a, h1, h2, h3⟩ := H; exact ⟨a, h1, h2, ZQz h3 h dl⟩
 | ab E tail L =>
  obtain ⟨a, P, h1, h2, h3, h4, h5⟩ := H
  have h0 := (h5.sp t).2.2.1 (.inl h)
  exact ⟨a, P, h1, h2, h3, h4, h5.off h0 (.inl h) (.inr rfl) rfl h0 fun u hu => ⟨rfl, rfl, rfl⟩⟩
 | hi tail L => exact H.elim
theorem K1.Q_set3 {S : K1} {n nw : Nat} {ws : Nat -> Int} {q : List Nat} (H : S.Q n nw ws q) {t : Nat} (h : S.ss.st t = 2) (dl : Nat -> Int) : (S.set (updF S.ss.st t 3) dl).Q n nw ws q := by
 cases S with
 | fl nx ow L => obtain ⟨a, b, o, h1, h2, h3, h4, h5, h6⟩ := H; exact ⟨a, b, o, h1, h2, h3, h4, h5, ZQu h6 h (.inl rfl) dl⟩
 | sl tail m L => obtain ⟨a, o, h1, h2, h3, h4, h5⟩ := H; exact ⟨a, o, h1, h2, h3, h4, ZQw h5 h dl⟩
 | cl tail L => obtain ⟨a, o, h1, h2, h3⟩ := H; exact ⟨a, o, h1, h2, ZQy h3 h (.inl rfl) dl⟩
 | mc tail L => obtain ⟨a, h1, h2, h3⟩ := H; exact ⟨a, h1, h2, ZQ0 h3 h (.inl rfl) dl⟩
 | ab E tail L =>
  obtain ⟨a, P, h1, h2, h3, h4, h5⟩ := H
  have h0 := (h5.sp t).2.2.1 (.inr h)
  obtain ⟨x, hx, _⟩ := h5.lead (.inl h)
  have h6 := h5.stay hx (ss' := ⟨updF L.ss.st t 3, dl⟩) (v := 3) (w := 0) (tr' := L.tr) (ot' := L.ot) rfl (fun _ _ => rfl) (by omega) (.inr (.inr ⟨rfl, by omega, rfl⟩)) (by omega)
  rw [ZEm h0] at h6
  exact ⟨a, P, h1, h2, h3, h4, h6⟩
 | hi tail L => exact H.elim
def ZHX (n : Int) : Bool := decide (n = 1) || decide (n = 2) || decide (n = 4) || decide (n = 8) || decide (n = 16) || decide (n = 32) || decide (n = 64)
theorem ZQM {n : Int} (h : ZHX n = true) : ∃ k : Nat, n = k /\ ZBW k := by
 simp only [ZHX, Bool.or_eq_true, decide_eq_true_eq] at h
 refine ⟨n.toNat, by omega, ?_⟩
 unfold ZBW
 omega
theorem ZKV (n : Int) : ZAE Tryz.prog 54 [] 0 [.l (.v (.int .i64 n))] fun x h k => x = ZAR (ZHX n) /\ k = 0 /\ h = [] := by
 refine sE Tryz.func54 ic54_eq [.t 2] fun G hP hA => ?_
 unfold evF ic54
 conv => whnf
 refine ZAg (α := Nat) (ds := []) (N := 0) (fun i => [(3, sInt .i64 (sizN i))]) [] (fun _ => [])
  (fun i => i <= 7 /\ ∀ j, j < i -> n ≠ sizN j) (fun i => 7 - i) 0 ⟨Nat.zero_le _, fun j hj => absurd hj (Nat.not_lt_zero j)⟩ ?_ fun i hi => ?_
 ·exact iA
 ·obtain ⟨hi, hn⟩ := hi
  have next : ∀ {i : Nat}, (∀ j, j < i -> n ≠ sizN j) -> ¬ sizN i = n -> ∀ j, j < i + 1 -> n ≠ sizN j := fun {i} hn h j hj => by
   rcases Nat.lt_succ_iff_lt_or_eq.1 hj with hj | rfl
   ·exact hn j hj
   ·exact fun e => h e.symm
  rcases (show i = 0 \/ i = 1 \/ i = 2 \/ i = 3 \/ i = 4 \/ i = 5 \/ i = 6 \/ i = 7 by omega) with rfl | rfl | rfl | rfl | rfl | rfl | rfl | rfl
  ·conv => whnf
   refine dsplit (fun h1 => ?_) (fun h1 => ?_)
   ·replace h1 : sizN 0 = n := h1
    subst h1
    conv => whnf
    refine fB ?_
    rfl
   ·conv => whnf
    refine zP ?_
    refine ⟨1, ⟨by omega, next hn h1⟩, by omega, ?_⟩
    exact iA
  ·conv => whnf
   refine dsplit (fun h1 => ?_) (fun h1 => ?_)
   ·replace h1 : sizN 1 = n := h1
    subst h1
    conv => whnf
    refine fB ?_
    rfl
   ·conv => whnf
    refine zP ?_
    refine ⟨2, ⟨by omega, next hn h1⟩, by omega, ?_⟩
    exact iA
  ·conv => whnf
   refine dsplit (fun h1 => ?_) (fun h1 => ?_)
   ·replace h1 : sizN 2 = n := h1
    subst h1
    conv => whnf
    refine fB ?_
    rfl
   ·conv => whnf
    refine zP ?_
    refine ⟨3, ⟨by omega, next hn h1⟩, by omega, ?_⟩
    exact iA
  ·conv => whnf
   refine dsplit (fun h1 => ?_) (fun h1 => ?_)
   ·replace h1 : sizN 3 = n := h1
    subst h1
    conv => whnf
    refine fB ?_
    rfl
   ·conv => whnf
    refine zP ?_
    refine ⟨4, ⟨by omega, next hn h1⟩, by omega, ?_⟩
    exact iA
  ·conv => whnf
   refine dsplit (fun h1 => ?_) (fun h1 => ?_)
   ·replace h1 : sizN 4 = n := h1
    subst h1
    conv => whnf
    refine fB ?_
    rfl
   ·conv => whnf
    refine zP ?_
    refine ⟨5, ⟨by omega, next hn h1⟩, by omega, ?_⟩
    exact iA
  ·conv => whnf
   refine dsplit (fun h1 => ?_) (fun h1 => ?_)
   ·replace h1 : sizN 5 = n := h1
    subst h1
    conv => whnf
    refine fB ?_
    rfl
   ·conv => whnf
    refine zP ?_
    refine ⟨6, ⟨by omega, next hn h1⟩, by omega, ?_⟩
    exact iA
  ·conv => whnf
   refine dsplit (fun h1 => ?_) (fun h1 => ?_)
   ·replace h1 : sizN 6 = n := h1
    subst h1
    conv => whnf
    refine fB ?_
    rfl
   ·conv => whnf
    refine zP ?_
    refine ⟨7, ⟨by omega, next hn h1⟩, by omega, ?_⟩
    exact iA
  ·conv => whnf
   refine fB ?_
   have := hn 0 (by omega)
   have := hn 1 (by omega)
   have := hn 2 (by omega)
   have := hn 3 (by omega)
   have := hn 4 (by omega)
   have := hn 5 (by omega)
   have := hn 6 (by omega)
   simp only [sizN] at *
   simp [ZHX, *]
theorem ZJA (h : Nat -> Int) (m : Nat) (hm : m <= 1000000) : ZAE Tryz.prog 53 [(0, some (.ro 1 m (numE h)))] 1 [.l (.s 0 1 0 m 0)] fun x h' k => x = ZAR (!anyZ badH h m) /\ k = 1 /\ h' = [] := by
 refine sE Tryz.func53 ic53_eq [.t 2] fun G hP hA => ?_
 unfold evF ic53
 conv => whnf
 refine ZAg (α := Nat) (ds := []) (N := 1) (fun i => [(7, sInt .i64 (i : Int))]) [] (fun _ => []) (fun i => i <= m /\ anyZ badH h i = false) (fun i => m - i) 0 ⟨Nat.zero_le _, rfl⟩ ?_ fun i hi => ?_
 ·exact iA
 ·obtain ⟨hi0, hi1⟩ := hi
  have hni : nadd 0 ((i : Nat) : Int).toNat = i := by simp [ZAO]
  conv => whnf
  refine dsplit (fun h2 => ?_) (fun h2 => ?_)
  ·replace h2 : (i : Int) < (m : Int) := h2
   conv => whnf
   refine zP ?_
   rw [hni]
   conv => whnf
   refine dsplit (fun h3 => ?_) (fun h3 => ?_)
   ·have hb : badH (h i) = true := by unfold badH; rw [decide_eq_true h3]; rfl
    conv => whnf
    refine fB ?_
    rw [ZGF (show i < m by omega) hb]; rfl
   ·conv => whnf
    refine dsplit (fun h4 => ?_) (fun h4 => ?_)
    ·have hb : badH (h i) = true := by unfold badH; rw [decide_eq_true (show 8 <= h i by have : 7 < h i := h4; omega), Bool.or_true]
     conv => whnf
     refine fB ?_
     rw [ZGF (show i < m by omega) hb]; rfl
    ·conv => whnf
     refine zP ?_
     refine ⟨i + 1, ⟨by omega, ?_⟩, by omega, ?_⟩
     ·have h5 : ¬ 7 < h i := h4
      simp only [anyZ, hi1, Bool.false_or, badH, decide_eq_false h3, decide_eq_false (show ¬ 8 <= h i by omega)]
     ·exact iA
  ·replace h2 : ¬ (i : Int) < (m : Int) := h2
   obtain rfl : i = m := by omega
   conv => whnf
   refine fB ?_
   rw [hi1]; rfl
def ZB6 (kind : Int) (m : Nat) (h : Nat -> Int) (slots pool budget glob loc : Int) : Int :=
 if kind < 1 \/ 7 < kind then 7 else if m < 1 \/ 64 < m \/ anyZ badH h m = true then 1 else
 if kind = 2 /\ (ZHX slots = false \/ slots < m) then 7 else if kind = 5 /\ (pool < 1 \/ 8 < pool) then 7 else
 if kind = 7 /\ (¬ (glob = 1 \/ glob = 4) \/ ¬ (loc = 1 \/ loc = 3 \/ loc = 4) \/ budget < 1 \/ 1000 < budget) then 7 else 0
theorem ZNa (kind : Int) (m : Nat) (h : Nat -> Int) (start slots pool budget glob loc : Int) (hm : m <= 80) :
  ZAE Tryz.prog 17 [(0, some (.ro 1 m (numE h)))] 1 [ZCR kind 0 m start slots pool budget glob loc] fun x h' k => x = sInt .i64 (ZB6 kind m h slots pool budget glob loc) /\ k = 1 /\ h' = [] := by
 have hho := ZJA h m (by omega)
 have hsz := ZKV slots
 refine sE Tryz.func17 ic17_eq [.t 2] fun G hP hA => ?_
 unfold evF ic17
 by_cases hk : kind < 1 \/ 7 < kind
 ·have hc : ZB6 kind m h slots pool budget glob loc = 7 := by unfold ZB6; rw [if_pos hk]
  conv => whnf
  (repeat' (first | (refine ZAH ?_; conv => whnf) | (refine dsplit (fun _ => ?_) (fun _ => ?_) <;> conv => whnf)))
  all_goals first | (exfalso; omega) | skip
  all_goals (refine fI ?_; exact hc.symm)
 by_cases h1 : m < 1 \/ 64 < m
 ·have hc : ZB6 kind m h slots pool budget glob loc = 1 := by unfold ZB6; rw [if_neg hk, if_pos (by omega)]
  conv => whnf
  (repeat' (first | (refine ZAH ?_; conv => whnf) | (refine dsplit (fun _ => ?_) (fun _ => ?_) <;> conv => whnf)))
  all_goals first | (exfalso; omega) | skip
  all_goals (refine fI ?_; exact hc.symm)
 cases hb : anyZ badH h m with
 | true =>
  have hc : ZB6 kind m h slots pool budget glob loc = 1 := by unfold ZB6; rw [if_neg hk, if_pos (by simp [hb])]
  rw [hb] at hho
  conv => whnf
  (repeat' (first | (refine ZAH ?_; conv => whnf) | (refine dsplit (fun _ => ?_) (fun _ => ?_) <;> conv => whnf)))
  all_goals first | (exfalso; omega) | skip
  refine cA (hho) ?_
  refine fI ?_
  exact hc.symm
 | false =>
  rw [hb] at hho
  have hc0 : ZB6 kind m h slots pool budget glob loc = if kind = 2 /\ (ZHX slots = false \/ slots < m) then 7 else if kind = 5 /\ (pool < 1 \/ 8 < pool) then 7 else
    if kind = 7 /\ (¬ (glob = 1 \/ glob = 4) \/ ¬ (loc = 1 \/ loc = 3 \/ loc = 4) \/ budget < 1 \/ 1000 < budget) then 7 else 0 := by
   unfold ZB6; rw [if_neg hk, if_neg (by simp [hb]; omega)]
  rcases (show kind = 1 \/ kind = 2 \/ kind = 3 \/ kind = 4 \/ kind = 5 \/ kind = 6 \/ kind = 7 by omega) with rfl | rfl | rfl | rfl | rfl | rfl | rfl
  ·have hc : ZB6 1 m h slots pool budget glob loc = 0 := by rw [hc0, if_neg (by omega), if_neg (by omega), if_neg (by omega)]
   conv => whnf
   (repeat' (first | (refine ZAH ?_; conv => whnf) | (refine dsplit (fun _ => ?_) (fun _ => ?_) <;> conv => whnf)))
   all_goals first | (exfalso; omega) | skip
   refine cA (hho) ?_
   (repeat' (first | (refine ZAH ?_; conv => whnf) | (refine dsplit (fun _ => ?_) (fun _ => ?_) <;> conv => whnf)))
   refine fI ?_
   exact hc.symm
  ·cases hs : ZHX slots with
   | false =>
    rw [hs] at hsz
    have hc : ZB6 2 m h slots pool budget glob loc = 7 := by rw [hc0, if_pos ⟨rfl, .inl hs⟩]
    conv => whnf
    (repeat' (first | (refine ZAH ?_; conv => whnf) | (refine dsplit (fun _ => ?_) (fun _ => ?_) <;> conv => whnf)))
    all_goals first | (exfalso; omega) | skip
    refine cA (hho) ?_
    (repeat' (first | (refine ZAH ?_; conv => whnf) | (refine dsplit (fun _ => ?_) (fun _ => ?_) <;> conv => whnf)))
    refine cA (hsz) ?_
    refine fI ?_
    exact hc.symm
   | true =>
    rw [hs] at hsz
    conv => whnf
    (repeat' (first | (refine ZAH ?_; conv => whnf) | (refine dsplit (fun _ => ?_) (fun _ => ?_) <;> conv => whnf)))
    all_goals first | (exfalso; omega) | skip
    refine cA (hho) ?_
    (repeat' (first | (refine ZAH ?_; conv => whnf) | (refine dsplit (fun _ => ?_) (fun _ => ?_) <;> conv => whnf)))
    refine cA (hsz) ?_
    (repeat' (first | (refine ZAH ?_; conv => whnf) | (refine dsplit (fun _ => ?_) (fun _ => ?_) <;> conv => whnf)))
    all_goals (refine fI ?_; rw [hc0])
    ·rename_i hh
     rw [if_pos ⟨rfl, .inr hh⟩]
    ·rename_i hh
     rw [if_neg (fun hq => by rcases hq.2 with hq | hq; (rw [hs] at hq; cases hq); exact hh hq), if_neg (by omega), if_neg (by omega)]
  ·have hc : ZB6 3 m h slots pool budget glob loc = 0 := by rw [hc0, if_neg (by omega), if_neg (by omega), if_neg (by omega)]
   conv => whnf
   (repeat' (first | (refine ZAH ?_; conv => whnf) | (refine dsplit (fun _ => ?_) (fun _ => ?_) <;> conv => whnf)))
   all_goals first | (exfalso; omega) | skip
   refine cA (hho) ?_
   (repeat' (first | (refine ZAH ?_; conv => whnf) | (refine dsplit (fun _ => ?_) (fun _ => ?_) <;> conv => whnf)))
   refine fI ?_
   exact hc.symm
  ·have hc : ZB6 4 m h slots pool budget glob loc = 0 := by rw [hc0, if_neg (by omega), if_neg (by omega), if_neg (by omega)]
   conv => whnf
   (repeat' (first | (refine ZAH ?_; conv => whnf) | (refine dsplit (fun _ => ?_) (fun _ => ?_) <;> conv => whnf)))
   all_goals first | (exfalso; omega) | skip
   refine cA (hho) ?_
   (repeat' (first | (refine ZAH ?_; conv => whnf) | (refine dsplit (fun _ => ?_) (fun _ => ?_) <;> conv => whnf)))
   refine fI ?_
   exact hc.symm
  ·conv => whnf
   (repeat' (first | (refine ZAH ?_; conv => whnf) | (refine dsplit (fun _ => ?_) (fun _ => ?_) <;> conv => whnf)))
   all_goals first | (exfalso; omega) | skip
   refine cA (hho) ?_
   (repeat' (first | (refine ZAH ?_; conv => whnf) | (refine dsplit (fun _ => ?_) (fun _ => ?_) <;> conv => whnf)))
   all_goals (refine fI ?_; rw [hc0, if_neg (by omega)])
   all_goals (repeat' split)
   all_goals first | rfl | (exfalso; omega)
  ·have hc : ZB6 6 m h slots pool budget glob loc = 0 := by rw [hc0, if_neg (by omega), if_neg (by omega), if_neg (by omega)]
   conv => whnf
   (repeat' (first | (refine ZAH ?_; conv => whnf) | (refine dsplit (fun _ => ?_) (fun _ => ?_) <;> conv => whnf)))
   all_goals first | (exfalso; omega) | skip
   refine cA (hho) ?_
   (repeat' (first | (refine ZAH ?_; conv => whnf) | (refine dsplit (fun _ => ?_) (fun _ => ?_) <;> conv => whnf)))
   refine fI ?_
   exact hc.symm
  ·conv => whnf
   (repeat' (first | (refine ZAH ?_; conv => whnf) | (refine dsplit (fun _ => ?_) (fun _ => ?_) <;> conv => whnf)))
   all_goals first | (exfalso; omega) | skip
   refine cA (hho) ?_
   (repeat' (first | (refine ZAH ?_; conv => whnf) | (refine dsplit (fun _ => ?_) (fun _ => ?_) <;> conv => whnf)))
   all_goals (refine fI ?_; rw [hc0, if_neg (by omega)])
   all_goals (repeat' split)
   all_goals first | rfl | (exfalso; omega)
theorem ZLk (kind : Int) (m : Nat) (h : Nat -> Int) (start slots pool budget glob loc : Int) :
  ZAE Tryz.prog 18 [(0, some (.ro 1 m (numE h)))] 1 [ZCR kind 0 m start slots pool budget glob loc] fun x h' k => x = .o (ZCR kind 0 m start slots pool budget glob loc) /\ k = 1 /\ h' = [] := by
 refine sE Tryz.func18 ic18_eq [.ca 2 8] fun G hP hA => ?_
 unfold evF ic18
 conv => whnf
 exact fA
theorem ZKW {kind : Int} {m : Nat} {h : Nat -> Int} {slots pool budget glob loc : Int} (hc : ZB6 kind m h slots pool budget glob loc = 0) :
  (1 <= kind /\ kind <= 7) /\ (1 <= m /\ m <= 64) /\ anyZ badH h m = false /\ (kind = 2 -> ZHX slots = true /\ (m : Int) <= slots) /\ (kind = 5 -> 1 <= pool /\ pool <= 8) /\ (kind = 7 -> (glob = 1 \/ glob = 4) /\ (loc = 1 \/ loc = 3 \/ loc = 4) /\ 1 <= budget /\ budget <= 1000) := by
 unfold ZB6 at hc
 by_cases c1 : kind < 1 \/ 7 < kind
 ·rw [if_pos c1] at hc; omega
 rw [if_neg c1] at hc
 by_cases c2 : m < 1 \/ 64 < m \/ anyZ badH h m = true
 ·rw [if_pos c2] at hc; omega
 rw [if_neg c2] at hc
 by_cases c3 : kind = 2 /\ (ZHX slots = false \/ slots < m)
 ·rw [if_pos c3] at hc; omega
 rw [if_neg c3] at hc
 by_cases c4 : kind = 5 /\ (pool < 1 \/ 8 < pool)
 ·rw [if_pos c4] at hc; omega
 rw [if_neg c4] at hc
 by_cases c5 : kind = 7 /\ (¬ (glob = 1 \/ glob = 4) \/ ¬ (loc = 1 \/ loc = 3 \/ loc = 4) \/ budget < 1 \/ 1000 < budget)
 ·rw [if_pos c5] at hc; omega
 have c2' : ¬ (m < 1) /\ ¬ (64 < m) /\ ¬ (anyZ badH h m = true) := ⟨fun q => c2 (.inl q), fun q => c2 (.inr (.inl q)), fun q => c2 (.inr (.inr q))⟩
 refine ⟨by omega, by omega, by simpa using c2'.2.2, fun hk => ⟨?_, ?_⟩, fun hk => by omega, fun hk => by omega⟩
 ·cases hs : ZHX slots with
  | true => rfl
  | false => exact absurd ⟨hk, .inl hs⟩ c3
 ·apply Classical.byContradiction
  intro hq
  exact c3 ⟨hk, .inr (by omega)⟩

end Go.Proofs.YtlkfolopbehikaaGreat
