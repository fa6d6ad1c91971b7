/- Machines in general: all that is called (printed by gt.py). · What is wrong with a configuration, by the document. · The depth of any configuration, by the document. · Machines in general: what they tell. · Machines in general: what an event leaves, and enters. · Locks: what isn't built, and why; the depth of any configuration. · BuildNews: machines of kind 1. · BuildNews: machines of kind 2. · BuildNews: machines of kind 3. · BuildNews: machines of kind 4. · BuildNews: machines of kind 5. · BuildNews: machines of kind 6. · BuildNews: machines of kind 7. · Machines in general: any machine, at first. · Machines in general: runs of events. · Machines in general: the document's example. · MachineClock: the walk. -/
import Derived.Test.YtlkfolopbehikaaGreatMc
import Derived.Test.YtlkfolopbehikaaGreatMa
import Derived.Test.YtlkfolopbehikaaGreatSxPS
set_option linter.unusedSimpArgs false
set_option linter.unusedVariables false
set_option maxRecDepth 8000
set_option maxHeartbeats 8000000
namespace Go.Proofs.YtlkfolopbehikaaGreat
open Go Go.Sx
structure MOk (n ty : Nat) (X : MS) : Prop where
 T : X.S.T = ty
 inv : X.S.inv n
 now : 0 <= X.now /\ X.now <= 1099511627776
 i : X.i <= 90000
theorem ZKN (n nw ty : Nat) (hs : Nat -> Int) (X : MS) (t v : Int) (hn : n <= 64) (hT : X.S.T = ty) (hv : stV n X.S.ss.st t = v) (h1 : ¬ v = 1) (h3 : ¬ v = 3) :
  ZAH Tryz.prog 94 (ZCB n nw ty 3 hs X) 5 [.l (.p 0 0 0 0), .l (.v (.int .i64 t))] fun x h k => x = ZAb false /\ k = 6 /\ h = ZCB n nw ty 5 hs X := by
 have hst := ZFQ X.S n t hn
 rw [hv, hT] at hst
 refine sE Tryz.func94 ic94_eq [.t 4] fun G hP hA => ?_
 unfold evF ic94
 conv => whnf
 (repeat (first | (refine mS ?_; conv => whnf) | rw [natI] | rw [ZAF] | ((first | refine ZAm hP hst ?_ | refine ZAh hP hst ?_); (conv => whnf); refine zA ?_; conv => whnf) | (refine arW ?_; conv => whnf)))
 (refine ZAC ?_; conv => whnf); exact zF
theorem MS.busy_in {n : Nat} {X : MS} {t : Int} (h : X.busy n t = true) : ∃ i : Nat, i < n /\ t = i /\ (X.S.ss.st i = 1 \/ X.S.ss.st i = 3) := by
 unfold MS.busy at h
 rcases ZAt n t with ⟨hb, i, hi, rfl⟩ | ⟨hb, ho⟩
 ·refine ⟨i, hi, rfl, ?_⟩
  simpa [stV, hb, pick] using h
 ·simp [stV, hb, pick] at h
theorem ZHy (n nw ty : Nat) (hs : Nat -> Int) (X : MS) (t : Int) (hn : n <= 64) (hnw : nw <= 4096) (H : MOk n ty X) :
  ZAH Tryz.prog 94 (ZCB n nw ty 3 hs X) 5 [.l (.p 0 0 0 0), .l (.v (.int .i64 t))] fun x h k => x = ZAb (X.stp n nw t).1 /\ k = 6 /\ h = ZCB n nw ty 5 hs (X.stp n nw t).2 := by
 unfold MS.stp
 cases hb : X.busy n t with
 | true =>
  obtain ⟨i, hi, rfl, hv⟩ := MS.busy_in hb
  simp only [Int.toNat_natCast]
  rcases hr : X.mid n nw i with ⟨⟨e, q, a, l⟩, S', s'⟩
  cases q <;> cases a
  ·exact ZL5 n nw ty hs X i _ hi hn hnw H.T H.inv H.i rfl hv e l S' s' hr
  ·exact ZL4 n nw ty hs X i _ hi hn hnw H.T H.inv H.i rfl hv e l S' s' hr
  ·exact ZL3 n nw ty hs X i _ hi hn hnw H.T H.inv H.i rfl hv e l S' s' hr
  ·exact ZL2 n nw ty hs X i _ hi hn hnw H.T H.inv H.i rfl hv e l S' s' hr
 | false =>
  simp only [MS.busy, Bool.or_eq_false_iff, decide_eq_false_iff_not] at hb
  exact ZKN n nw ty hs X t _ hn H.T rfl hb.1 hb.2
def MS.till (X : MS) (w : Int) : Int := pick (decide (0 <= w)) (X.now + min w 1073741824) (-1)
def MS.wS (X : MS) (S : LK) : MS := ⟨S, X.s, X.i, X.rows, X.now, X.idle, X.sp⟩
def MS.cal (n : Nat) (X : MS) (t w : Int) : Bool × MS :=
 pick (decide (lkE n X.S.ss.st X.S.tm t (X.till w) = 0)) (true, (X.wS (X.S.lock n t (X.till w))).ent 1 t false) (false, X.wS (X.S.lock n t (X.till w)))
theorem ZHz (n nw ty : Nat) (hs : Nat -> Int) (X : MS) (t w : Int) (hn : n <= 64) (H : MOk n ty X) :
  ZAH Tryz.prog 96 (ZCB n nw ty 3 hs X) 5 [.l (.p 0 0 0 0), .l (.v (.int .i64 t)), .l (.v (.int .i64 w))] fun x h k => x = ZAb (X.cal n t w).1 /\ k = 6 /\ h = ZCB n nw ty 5 hs (X.cal n t w).2 := by
 obtain ⟨hT, hinv, hnow, hi⟩ := H
 have hen := ZAp ty n X.i X.now X.idle 1 t X.rows (by omega)
 refine sE Tryz.func96 ic96_eq [.t 6] fun G hP hA => ?_
 unfold evF ic96 MS.cal
 by_cases h0 : 0 <= w
 ·have hlk := ZPH X.S n t (X.now + min w 1073741824) hn
  simp only [MS.till, h0, decide_true, pick]
  by_cases e : lkE n X.S.ss.st X.S.tm t (X.now + min w 1073741824) = 0
  ·rw [e, hT] at hlk
   simp only [e, decide_true]
   conv => whnf
   (repeat (first | (refine mS ?_; conv => whnf) | rw [natI] | rw [ZAF] | ((first | refine ZAA hP hen ?_ | refine ZAB hP hen ?_ | refine ZAm hP hlk ?_ | refine ZAh hP hlk ?_); (conv => whnf); refine zA ?_; conv => whnf) | (refine arW ?_; conv => whnf)))
   (refine ZAC ?_; conv => whnf); exact zF
  ·rw [hT] at hlk
   simp only [e, decide_false]
   conv => whnf
   (repeat (first | (refine mS ?_; conv => whnf) | rw [natI] | rw [ZAF] | ((first | refine ZAA hP hen ?_ | refine ZAB hP hen ?_ | refine ZAm hP hlk ?_ | refine ZAh hP hlk ?_); (conv => whnf); refine zA ?_; conv => whnf) | (refine arW ?_; conv => whnf)))
   (refine ZAC ?_; conv => whnf); exact zF
 ·have hlk := ZPH X.S n t (-1) hn
  simp only [MS.till, h0, decide_false, pick]
  by_cases e : lkE n X.S.ss.st X.S.tm t (-1) = 0
  ·rw [e, hT] at hlk
   simp only [e, decide_true]
   conv => whnf
   (repeat (first | (refine mS ?_; conv => whnf) | rw [natI] | rw [ZAF] | ((first | refine ZAA hP hen ?_ | refine ZAB hP hen ?_ | refine ZAm hP hlk ?_ | refine ZAh hP hlk ?_); (conv => whnf); refine zA ?_; conv => whnf) | (refine arW ?_; conv => whnf)))
   (refine ZAC ?_; conv => whnf); exact zF
  ·rw [hT] at hlk
   simp only [e, decide_false]
   conv => whnf
   (repeat (first | (refine mS ?_; conv => whnf) | rw [natI] | rw [ZAF] | ((first | refine ZAA hP hen ?_ | refine ZAB hP hen ?_ | refine ZAm hP hlk ?_ | refine ZAh hP hlk ?_); (conv => whnf); refine zA ?_; conv => whnf) | (refine arW ?_; conv => whnf)))
   (refine ZAC ?_; conv => whnf); exact zF
def MS.tck (X : MS) : Bool × MS := pick (decide (1099511627776 <= X.now)) (false, X) (true, ⟨X.S, X.s, X.i, X.rows, X.now + 1, X.idle, X.sp⟩)
theorem ZH0 (n nw ty : Nat) (hs : Nat -> Int) (X : MS) (H : MOk n ty X) :
  ZAH Tryz.prog 95 (ZCB n nw ty 3 hs X) 5 [.l (.p 0 0 0 0)] fun x h k => x = ZAb X.tck.1 /\ k = 6 /\ h = ZCB n nw ty 5 hs X.tck.2 := by
 obtain ⟨hT, hinv, hnow, hi⟩ := H
 refine sE Tryz.func95 ic95_eq [.t 2] fun G hP hA => ?_
 unfold evF ic95 MS.tck
 by_cases e : 1099511627776 <= X.now
 ·simp only [e, decide_true, pick]
  conv => whnf
  (repeat (first | (refine mS ?_; conv => whnf) | rw [natI] | rw [ZAF] | (refine arW ?_; conv => whnf)))
  (refine ZAC ?_; conv => whnf); exact zF
 ·simp only [e, decide_false, pick]
  conv => whnf
  (repeat (first | (refine mS ?_; conv => whnf) | rw [natI] | rw [ZAF] | (refine arW ?_; conv => whnf)))
  (refine ZAC ?_; conv => whnf); exact zF
def MS.fin (n : Nat) (X : MS) (t : Int) : Bool × MS := pick (decide (hoE n X.S.ss.st t = 0)) (true, (X.wS (X.S.unlock n t)).ent 6 t false) (false, X.wS (X.S.unlock n t))
def MS.do0 (n nw : Nat) (X : MS) (k t w : Int) : Bool × MS :=
 pick (decide (k = 1)) (X.stp n nw t) (pick (decide (k = 2)) X.tck (pick (decide (k = 3)) (X.cal n t w) (pick (decide (k = 4)) (X.fin n t) (false, X))))
def evA (k t w : Int) : AV := .a [.v (.int .i64 k), .v (.int .i64 t), .v (.int .i64 w)]
theorem ZI7 (n nw ty : Nat) (hs : Nat -> Int) (X : MS) (kd t w : Int) (hn : n <= 64) (hnw : nw <= 4096) (H : MOk n ty X) :
  ZAH Tryz.prog 56 (ZCB n nw ty 3 hs X) 5 [.l (.p 0 0 0 0), evA kd t w] fun x h k => x = ZAb (X.do0 n nw kd t w).1 /\ k = 6 /\ h = ZCB n nw ty 5 hs (X.do0 n nw kd t w).2 := by
 have hsp := ZHy n nw ty hs X t hn hnw H
 have htk := ZH0 n nw ty hs X H
 have hcl := ZHz n nw ty hs X t w hn H
 obtain ⟨hT, hinv, hnow, hi⟩ := H
 have hen := ZAp ty n X.i X.now X.idle 6 t X.rows (by omega)
 have hul := ZOh X.S n t hn
 refine sE Tryz.func56 ic56_eq [.t 4] fun G hP hA => ?_
 unfold evF ic56 MS.do0
 by_cases k1 : kd = 1
 ·simp only [k1, decide_true, pick]
  conv => whnf
  (repeat (first | (refine mS ?_; conv => whnf) | rw [natI] | rw [ZAF] | ((first | refine ZAA hP hsp ?_ | refine ZAB hP hsp ?_); (conv => whnf); refine zA ?_; conv => whnf) | (refine arW ?_; conv => whnf)))
  (refine ZAC ?_; conv => whnf); exact zF
 by_cases k2 : kd = 2
 ·simp only [Int.reduceEq, k2, decide_true, decide_false, pick]
  conv => whnf
  (repeat (first | (refine mS ?_; conv => whnf) | rw [natI] | rw [ZAF] | ((first | refine ZAA hP htk ?_ | refine ZAB hP htk ?_); (conv => whnf); refine zA ?_; conv => whnf) | (refine arW ?_; conv => whnf)))
  (refine ZAC ?_; conv => whnf); exact zF
 by_cases k3 : kd = 3
 ·simp only [Int.reduceEq, k3, decide_true, decide_false, pick]
  conv => whnf
  (repeat (first | (refine mS ?_; conv => whnf) | rw [natI] | rw [ZAF] | ((first | refine ZAA hP hcl ?_ | refine ZAB hP hcl ?_); (conv => whnf); refine zA ?_; conv => whnf) | (refine arW ?_; conv => whnf)))
  (refine ZAC ?_; conv => whnf); exact zF
 by_cases k4 : kd = 4
 ·simp only [Int.reduceEq, k4, decide_true, decide_false, pick, MS.fin]
  by_cases e : hoE n X.S.ss.st t = 0
  ·rw [e, hT] at hul
   simp only [e, decide_true]
   conv => whnf
   (repeat (first | (refine mS ?_; conv => whnf) | rw [natI] | rw [ZAF] | ((first | refine ZAA hP hen ?_ | refine ZAB hP hen ?_ | refine ZAm hP hul ?_ | refine ZAh hP hul ?_); (conv => whnf); refine zA ?_; conv => whnf) | (refine arW ?_; conv => whnf)))
   (refine ZAC ?_; conv => whnf); exact zF
  ·rw [hT] at hul
   simp only [e, decide_false]
   conv => whnf
   (repeat (first | (refine mS ?_; conv => whnf) | rw [natI] | rw [ZAF] | ((first | refine ZAA hP hen ?_ | refine ZAB hP hen ?_ | refine ZAm hP hul ?_ | refine ZAh hP hul ?_); (conv => whnf); refine zA ?_; conv => whnf) | (refine arW ?_; conv => whnf)))
   (refine ZAC ?_; conv => whnf); exact zF
 ·simp only [k1, k2, k3, k4, decide_false, pick]
  conv => whnf
  (repeat (first | (refine mS ?_; conv => whnf) | rw [natI] | rw [ZAF] | (refine arW ?_; conv => whnf)))
  (refine ZAC ?_; conv => whnf); exact zF
def MS.Do (n nw : Nat) (X : MS) (k t w : Int) : Bool × MS :=
 match X.do0 n nw k t w with
 | (true, Y) => (true, Y)
 | (false, Y) => (false, ⟨Y.S, Y.s, Y.i, Y.rows, Y.now, incZ Y.idle, Y.sp⟩)
theorem ZGE (n nw ty : Nat) (hs : Nat -> Int) (X : MS) (kd t w : Int) (hn : n <= 64) (hnw : nw <= 4096) (H : MOk n ty X) :
  ZAH Tryz.prog 24 (ZCB n nw ty 3 hs X) 5 [.l (.p 0 0 0 0), evA kd t w] fun x h k => x = ZAb (X.Do n nw kd t w).1 /\ k = 6 /\ h = ZCB n nw ty 5 hs (X.Do n nw kd t w).2 := by
 have hd := ZI7 n nw ty hs X kd t w hn hnw H
 refine sE Tryz.func24 ic24_eq [.t 4] fun G hP hA => ?_
 unfold evF ic24 MS.Do
 rcases hr : X.do0 n nw kd t w with ⟨b, Y⟩
 rw [hr] at hd
 cases b
 ·simp only
  conv => whnf
  (repeat (first | (refine mS ?_; conv => whnf) | rw [natI] | rw [ZAF] | ((first | refine ZAA hP hd ?_ | refine ZAB hP hd ?_); (conv => whnf); refine zA ?_; conv => whnf) | (refine arW ?_; conv => whnf)))
  (refine ZAC ?_; conv => whnf); exact zF
 ·simp only
  conv => whnf
  (repeat (first | (refine mS ?_; conv => whnf) | rw [natI] | rw [ZAF] | ((first | refine ZAA hP hd ?_ | refine ZAB hP hd ?_); (conv => whnf); refine zA ?_; conv => whnf) | (refine arW ?_; conv => whnf)))
  (refine ZAC ?_; conv => whnf); exact zF
def ZHD (n : Int) : Bool := decide (n = 1) || decide (n = 2) || decide (n = 4) || decide (n = 8) || decide (n = 16) || decide (n = 32) || decide (n = 64)
theorem ZPG {n : Int} (h : ZHD n = true) : ∃ k : Nat, n = k /\ ZCd k := by
 simp only [ZHD, Bool.or_eq_true, decide_eq_true_eq] at h
 refine ⟨n.toNat, by omega, ?_⟩
 unfold ZCd
 omega
theorem ZJ6 (n : Int) : ZAH Tryz.prog 54 [] 0 [.l (.v (.int .i64 n))] fun x h k => x = ZAb (ZHD n) /\ k = 0 /\ h = [] := by
 refine sE Tryz.func54 ic54_eq [.t 2] fun G hP hA => ?_
 unfold evF ic54
 conv => whnf
 refine ZAn (α := Nat) (ds := []) (N := 0) (fun i => [(3, sInt .i64 (sizN i))]) [] (fun _ => [])
  (fun i => i <= 7 /\ ∀ j, j < i -> n ≠ sizN j) (fun i => 7 - i) 0 ⟨Nat.zero_le _, fun j hj => absurd hj (Nat.not_lt_zero j)⟩ ?_ fun i hi => ?_
 ·(conv => whnf); (refine ZAU hA ?_; conv => whnf); exact zI
 ·obtain ⟨hi, hn⟩ := hi
  have next : ∀ {i : Nat}, (∀ j, j < i -> n ≠ sizN j) -> ¬ sizN i = n -> ∀ j, j < i + 1 -> n ≠ sizN j := fun {i} hn h j hj => by
   rcases Nat.lt_succ_iff_lt_or_eq.1 hj with hj | rfl
   ·exact hn j hj
   ·exact fun e => h e.symm
  rcases (show i = 0 \/ i = 1 \/ i = 2 \/ i = 3 \/ i = 4 \/ i = 5 \/ i = 6 \/ i = 7 by omega) with rfl | rfl | rfl | rfl | rfl | rfl | rfl | rfl
  ·conv => whnf
   refine dsplit (fun h1 => ?_) (fun h1 => ?_)
   ·replace h1 : sizN 0 = n := h1
    subst h1
    conv => whnf
    (refine ZAC ?_; conv => whnf); refine ⟨rfl, rfl, rfl, ZAr ?_, ZAD, rfl⟩
    rfl
   ·conv => whnf
    (repeat' ((first | refine aI ?_ | refine a64 ?_ | refine a32 ?_ | refine a8 ?_); conv => whnf))
    refine ⟨1, ⟨by omega, next hn h1⟩, by omega, ?_⟩
    (conv => whnf); (refine ZAU hA ?_; conv => whnf); exact zI
  ·conv => whnf
   refine dsplit (fun h1 => ?_) (fun h1 => ?_)
   ·replace h1 : sizN 1 = n := h1
    subst h1
    conv => whnf
    (refine ZAC ?_; conv => whnf); refine ⟨rfl, rfl, rfl, ZAr ?_, ZAD, rfl⟩
    rfl
   ·conv => whnf
    (repeat' ((first | refine aI ?_ | refine a64 ?_ | refine a32 ?_ | refine a8 ?_); conv => whnf))
    refine ⟨2, ⟨by omega, next hn h1⟩, by omega, ?_⟩
    (conv => whnf); (refine ZAU hA ?_; conv => whnf); exact zI
  ·conv => whnf
   refine dsplit (fun h1 => ?_) (fun h1 => ?_)
   ·replace h1 : sizN 2 = n := h1
    subst h1
    conv => whnf
    (refine ZAC ?_; conv => whnf); refine ⟨rfl, rfl, rfl, ZAr ?_, ZAD, rfl⟩
    rfl
   ·conv => whnf
    (repeat' ((first | refine aI ?_ | refine a64 ?_ | refine a32 ?_ | refine a8 ?_); conv => whnf))
    refine ⟨3, ⟨by omega, next hn h1⟩, by omega, ?_⟩
    (conv => whnf); (refine ZAU hA ?_; conv => whnf); exact zI
  ·conv => whnf
   refine dsplit (fun h1 => ?_) (fun h1 => ?_)
   ·replace h1 : sizN 3 = n := h1
    subst h1
    conv => whnf
    (refine ZAC ?_; conv => whnf); refine ⟨rfl, rfl, rfl, ZAr ?_, ZAD, rfl⟩
    rfl
   ·conv => whnf
    (repeat' ((first | refine aI ?_ | refine a64 ?_ | refine a32 ?_ | refine a8 ?_); conv => whnf))
    refine ⟨4, ⟨by omega, next hn h1⟩, by omega, ?_⟩
    (conv => whnf); (refine ZAU hA ?_; conv => whnf); exact zI
  ·conv => whnf
   refine dsplit (fun h1 => ?_) (fun h1 => ?_)
   ·replace h1 : sizN 4 = n := h1
    subst h1
    conv => whnf
    (refine ZAC ?_; conv => whnf); refine ⟨rfl, rfl, rfl, ZAr ?_, ZAD, rfl⟩
    rfl
   ·conv => whnf
    (repeat' ((first | refine aI ?_ | refine a64 ?_ | refine a32 ?_ | refine a8 ?_); conv => whnf))
    refine ⟨5, ⟨by omega, next hn h1⟩, by omega, ?_⟩
    (conv => whnf); (refine ZAU hA ?_; conv => whnf); exact zI
  ·conv => whnf
   refine dsplit (fun h1 => ?_) (fun h1 => ?_)
   ·replace h1 : sizN 5 = n := h1
    subst h1
    conv => whnf
    (refine ZAC ?_; conv => whnf); refine ⟨rfl, rfl, rfl, ZAr ?_, ZAD, rfl⟩
    rfl
   ·conv => whnf
    (repeat' ((first | refine aI ?_ | refine a64 ?_ | refine a32 ?_ | refine a8 ?_); conv => whnf))
    refine ⟨6, ⟨by omega, next hn h1⟩, by omega, ?_⟩
    (conv => whnf); (refine ZAU hA ?_; conv => whnf); exact zI
  ·conv => whnf
   refine dsplit (fun h1 => ?_) (fun h1 => ?_)
   ·replace h1 : sizN 6 = n := h1
    subst h1
    conv => whnf
    (refine ZAC ?_; conv => whnf); refine ⟨rfl, rfl, rfl, ZAr ?_, ZAD, rfl⟩
    rfl
   ·conv => whnf
    (repeat' ((first | refine aI ?_ | refine a64 ?_ | refine a32 ?_ | refine a8 ?_); conv => whnf))
    refine ⟨7, ⟨by omega, next hn h1⟩, by omega, ?_⟩
    (conv => whnf); (refine ZAU hA ?_; conv => whnf); exact zI
  ·conv => whnf
   (refine ZAC ?_; conv => whnf); refine ⟨rfl, rfl, rfl, ZAr ?_, ZAD, rfl⟩
   have := hn 0 (by omega)
   have := hn 1 (by omega)
   have := hn 2 (by omega)
   have := hn 3 (by omega)
   have := hn 4 (by omega)
   have := hn 5 (by omega)
   have := hn 6 (by omega)
   simp only [sizN] at *
   simp [ZHD, *]
theorem ZIi (h : Nat -> Int) (m : Nat) (hm : m <= 1000000) : ZAH Tryz.prog 53 [(0, some (.ro 1 m (numE h)))] 1 [.l (.s 0 1 0 m 0)] fun x h' k => x = ZAb (!anyZ badH h m) /\ k = 1 /\ h' = [] := by
 refine sE Tryz.func53 ic53_eq [.t 2] fun G hP hA => ?_
 unfold evF ic53
 conv => whnf
 refine ZAn (α := Nat) (ds := []) (N := 1) (fun i => [(7, sInt .i64 (i : Int))]) [] (fun _ => []) (fun i => i <= m /\ anyZ badH h i = false) (fun i => m - i) 0 ⟨Nat.zero_le _, rfl⟩ ?_ fun i hi => ?_
 ·(conv => whnf); (refine ZAU hA ?_; conv => whnf); exact zI
 ·obtain ⟨hi0, hi1⟩ := hi
  have hni : nadd 0 ((i : Nat) : Int).toNat = i := by simp [ZAI]
  conv => whnf
  refine dsplit (fun h2 => ?_) (fun h2 => ?_)
  ·replace h2 : (i : Int) < (m : Int) := h2
   conv => whnf
   (repeat' ((first | refine aI ?_ | refine a64 ?_ | refine a32 ?_ | refine a8 ?_); conv => whnf))
   rw [hni]
   conv => whnf
   refine dsplit (fun h3 => ?_) (fun h3 => ?_)
   ·have hb : badH (h i) = true := by unfold badH; rw [decide_eq_true h3]; rfl
    conv => whnf
    (refine ZAC ?_; conv => whnf); refine ⟨rfl, rfl, rfl, ZAr ?_, ZAD, rfl⟩
    rw [ZFu (show i < m by omega) hb]; rfl
   ·conv => whnf
    refine dsplit (fun h4 => ?_) (fun h4 => ?_)
    ·have hb : badH (h i) = true := by unfold badH; rw [decide_eq_true (show 8 <= h i by have : 7 < h i := h4; omega), Bool.or_true]
     conv => whnf
     (refine ZAC ?_; conv => whnf); refine ⟨rfl, rfl, rfl, ZAr ?_, ZAD, rfl⟩
     rw [ZFu (show i < m by omega) hb]; rfl
    ·conv => whnf
     (repeat' ((first | refine aI ?_ | refine a64 ?_ | refine a32 ?_ | refine a8 ?_); conv => whnf))
     refine ⟨i + 1, ⟨by omega, ?_⟩, by omega, ?_⟩
     ·have h5 : ¬ 7 < h i := h4
      simp only [anyZ, hi1, Bool.false_or, badH, decide_eq_false h3, decide_eq_false (show ¬ 8 <= h i by omega)]
     ·(conv => whnf); (refine ZAU hA ?_; conv => whnf); exact zI
  ·replace h2 : ¬ (i : Int) < (m : Int) := h2
   obtain rfl : i = m := by omega
   conv => whnf
   (refine ZAC ?_; conv => whnf); refine ⟨rfl, rfl, rfl, ZAr ?_, ZAD, rfl⟩
   rw [hi1]; rfl
def ZB7 (kind : Int) (m : Nat) (h : Nat -> Int) (slots pool budget glob loc : Int) : Int :=
 if kind < 1 \/ 7 < kind then 7 else if m < 1 \/ 64 < m \/ anyZ badH h m = true then 1 else
 if kind = 2 /\ (ZHD slots = false \/ slots < m) then 7 else if kind = 5 /\ (pool < 1 \/ 8 < pool) then 7 else
 if kind = 7 /\ (¬ (glob = 1 \/ glob = 4) \/ ¬ (loc = 1 \/ loc = 3 \/ loc = 4) \/ budget < 1 \/ 1000 < budget) then 7 else 0
theorem ZMk (kind : Int) (m : Nat) (h : Nat -> Int) (start slots pool budget glob loc : Int) (hm : m <= 80) :
  ZAH Tryz.prog 17 [(0, some (.ro 1 m (numE h)))] 1 [ZB8 kind 0 m start slots pool budget glob loc] fun x h' k => x = sInt .i64 (ZB7 kind m h slots pool budget glob loc) /\ k = 1 /\ h' = [] := by
 have hho := ZIi h m (by omega)
 have hsz := ZJ6 slots
 refine sE Tryz.func17 ic17_eq [.t 2] fun G hP hA => ?_
 unfold evF ic17
 by_cases hk : kind < 1 \/ 7 < kind
 ·have hc : ZB7 kind m h slots pool budget glob loc = 7 := by unfold ZB7; rw [if_pos hk]
  conv => whnf
  (repeat' (first | (refine ZAE ?_; conv => whnf) | (refine dsplit (fun _ => ?_) (fun _ => ?_) <;> conv => whnf)))
  all_goals first | (exfalso; omega) | skip
  all_goals ((refine ZAC ?_; conv => whnf); refine ⟨rfl, rfl, rfl, ZBB ?_, ZAD, rfl⟩; exact hc.symm)
 by_cases h1 : m < 1 \/ 64 < m
 ·have hc : ZB7 kind m h slots pool budget glob loc = 1 := by unfold ZB7; rw [if_neg hk, if_pos (by omega)]
  conv => whnf
  (repeat' (first | (refine ZAE ?_; conv => whnf) | (refine dsplit (fun _ => ?_) (fun _ => ?_) <;> conv => whnf)))
  all_goals first | (exfalso; omega) | skip
  all_goals ((refine ZAC ?_; conv => whnf); refine ⟨rfl, rfl, rfl, ZBB ?_, ZAD, rfl⟩; exact hc.symm)
 cases hb : anyZ badH h m with
 | true =>
  have hc : ZB7 kind m h slots pool budget glob loc = 1 := by unfold ZB7; rw [if_neg hk, if_pos (by simp [hb])]
  rw [hb] at hho
  conv => whnf
  (repeat' (first | (refine ZAE ?_; conv => whnf) | (refine dsplit (fun _ => ?_) (fun _ => ?_) <;> conv => whnf)))
  all_goals first | (exfalso; omega) | skip
  (refine ZAA hP (hho) ?_; (conv => whnf); refine zA ?_; conv => whnf)
  (refine ZAC ?_; conv => whnf); refine ⟨rfl, rfl, rfl, ZBB ?_, ZAD, rfl⟩
  exact hc.symm
 | false =>
  rw [hb] at hho
  have hc0 : ZB7 kind m h slots pool budget glob loc = if kind = 2 /\ (ZHD slots = false \/ slots < m) then 7 else if kind = 5 /\ (pool < 1 \/ 8 < pool) then 7 else
    if kind = 7 /\ (¬ (glob = 1 \/ glob = 4) \/ ¬ (loc = 1 \/ loc = 3 \/ loc = 4) \/ budget < 1 \/ 1000 < budget) then 7 else 0 := by
   unfold ZB7; rw [if_neg hk, if_neg (by simp [hb]; omega)]
  rcases (show kind = 1 \/ kind = 2 \/ kind = 3 \/ kind = 4 \/ kind = 5 \/ kind = 6 \/ kind = 7 by omega) with rfl | rfl | rfl | rfl | rfl | rfl | rfl
  ·have hc : ZB7 1 m h slots pool budget glob loc = 0 := by rw [hc0, if_neg (by omega), if_neg (by omega), if_neg (by omega)]
   conv => whnf
   (repeat' (first | (refine ZAE ?_; conv => whnf) | (refine dsplit (fun _ => ?_) (fun _ => ?_) <;> conv => whnf)))
   all_goals first | (exfalso; omega) | skip
   (refine ZAA hP (hho) ?_; (conv => whnf); refine zA ?_; conv => whnf)
   (repeat' (first | (refine ZAE ?_; conv => whnf) | (refine dsplit (fun _ => ?_) (fun _ => ?_) <;> conv => whnf)))
   (refine ZAC ?_; conv => whnf); refine ⟨rfl, rfl, rfl, ZBB ?_, ZAD, rfl⟩
   exact hc.symm
  ·cases hs : ZHD slots with
   | false =>
    rw [hs] at hsz
    have hc : ZB7 2 m h slots pool budget glob loc = 7 := by rw [hc0, if_pos ⟨rfl, .inl hs⟩]
    conv => whnf
    (repeat' (first | (refine ZAE ?_; conv => whnf) | (refine dsplit (fun _ => ?_) (fun _ => ?_) <;> conv => whnf)))
    all_goals first | (exfalso; omega) | skip
    (refine ZAA hP (hho) ?_; (conv => whnf); refine zA ?_; conv => whnf)
    (repeat' (first | (refine ZAE ?_; conv => whnf) | (refine dsplit (fun _ => ?_) (fun _ => ?_) <;> conv => whnf)))
    (refine ZAA hP (hsz) ?_; (conv => whnf); refine zA ?_; conv => whnf)
    (refine ZAC ?_; conv => whnf); refine ⟨rfl, rfl, rfl, ZBB ?_, ZAD, rfl⟩
    exact hc.symm
   | true =>
    rw [hs] at hsz
    conv => whnf
    (repeat' (first | (refine ZAE ?_; conv => whnf) | (refine dsplit (fun _ => ?_) (fun _ => ?_) <;> conv => whnf)))
    all_goals first | (exfalso; omega) | skip
    (refine ZAA hP (hho) ?_; (conv => whnf); refine zA ?_; conv => whnf)
    (repeat' (first | (refine ZAE ?_; conv => whnf) | (refine dsplit (fun _ => ?_) (fun _ => ?_) <;> conv => whnf)))
    (refine ZAA hP (hsz) ?_; (conv => whnf); refine zA ?_; conv => whnf)
    (repeat' (first | (refine ZAE ?_; conv => whnf) | (refine dsplit (fun _ => ?_) (fun _ => ?_) <;> conv => whnf)))
    all_goals ((refine ZAC ?_; conv => whnf); refine ⟨rfl, rfl, rfl, ZBB ?_, ZAD, rfl⟩; rw [hc0])
    ·rename_i hh
     rw [if_pos ⟨rfl, .inr hh⟩]
    ·rename_i hh
     rw [if_neg (fun hq => by rcases hq.2 with hq | hq; (rw [hs] at hq; cases hq); exact hh hq), if_neg (by omega), if_neg (by omega)]
  ·have hc : ZB7 3 m h slots pool budget glob loc = 0 := by rw [hc0, if_neg (by omega), if_neg (by omega), if_neg (by omega)]
   conv => whnf
   (repeat' (first | (refine ZAE ?_; conv => whnf) | (refine dsplit (fun _ => ?_) (fun _ => ?_) <;> conv => whnf)))
   all_goals first | (exfalso; omega) | skip
   (refine ZAA hP (hho) ?_; (conv => whnf); refine zA ?_; conv => whnf)
   (repeat' (first | (refine ZAE ?_; conv => whnf) | (refine dsplit (fun _ => ?_) (fun _ => ?_) <;> conv => whnf)))
   (refine ZAC ?_; conv => whnf); refine ⟨rfl, rfl, rfl, ZBB ?_, ZAD, rfl⟩
   exact hc.symm
  ·have hc : ZB7 4 m h slots pool budget glob loc = 0 := by rw [hc0, if_neg (by omega), if_neg (by omega), if_neg (by omega)]
   conv => whnf
   (repeat' (first | (refine ZAE ?_; conv => whnf) | (refine dsplit (fun _ => ?_) (fun _ => ?_) <;> conv => whnf)))
   all_goals first | (exfalso; omega) | skip
   (refine ZAA hP (hho) ?_; (conv => whnf); refine zA ?_; conv => whnf)
   (repeat' (first | (refine ZAE ?_; conv => whnf) | (refine dsplit (fun _ => ?_) (fun _ => ?_) <;> conv => whnf)))
   (refine ZAC ?_; conv => whnf); refine ⟨rfl, rfl, rfl, ZBB ?_, ZAD, rfl⟩
   exact hc.symm
  ·conv => whnf
   (repeat' (first | (refine ZAE ?_; conv => whnf) | (refine dsplit (fun _ => ?_) (fun _ => ?_) <;> conv => whnf)))
   all_goals first | (exfalso; omega) | skip
   (refine ZAA hP (hho) ?_; (conv => whnf); refine zA ?_; conv => whnf)
   (repeat' (first | (refine ZAE ?_; conv => whnf) | (refine dsplit (fun _ => ?_) (fun _ => ?_) <;> conv => whnf)))
   all_goals ((refine ZAC ?_; conv => whnf); refine ⟨rfl, rfl, rfl, ZBB ?_, ZAD, rfl⟩; rw [hc0, if_neg (by omega)])
   all_goals (repeat' split)
   all_goals first | rfl | (exfalso; omega)
  ·have hc : ZB7 6 m h slots pool budget glob loc = 0 := by rw [hc0, if_neg (by omega), if_neg (by omega), if_neg (by omega)]
   conv => whnf
   (repeat' (first | (refine ZAE ?_; conv => whnf) | (refine dsplit (fun _ => ?_) (fun _ => ?_) <;> conv => whnf)))
   all_goals first | (exfalso; omega) | skip
   (refine ZAA hP (hho) ?_; (conv => whnf); refine zA ?_; conv => whnf)
   (repeat' (first | (refine ZAE ?_; conv => whnf) | (refine dsplit (fun _ => ?_) (fun _ => ?_) <;> conv => whnf)))
   (refine ZAC ?_; conv => whnf); refine ⟨rfl, rfl, rfl, ZBB ?_, ZAD, rfl⟩
   exact hc.symm
  ·conv => whnf
   (repeat' (first | (refine ZAE ?_; conv => whnf) | (refine dsplit (fun _ => ?_) (fun _ => ?_) <;> conv => whnf)))
   all_goals first | (exfalso; omega) | skip
   (refine ZAA hP (hho) ?_; (conv => whnf); refine zA ?_; conv => whnf)
   (repeat' (first | (refine ZAE ?_; conv => whnf) | (refine dsplit (fun _ => ?_) (fun _ => ?_) <;> conv => whnf)))
   all_goals ((refine ZAC ?_; conv => whnf); refine ⟨rfl, rfl, rfl, ZBB ?_, ZAD, rfl⟩; rw [hc0, if_neg (by omega)])
   all_goals (repeat' split)
   all_goals first | rfl | (exfalso; omega)
theorem ZLF (kind : Int) (m : Nat) (h : Nat -> Int) (start slots pool budget glob loc : Int) :
  ZAH Tryz.prog 18 [(0, some (.ro 1 m (numE h)))] 1 [ZB8 kind 0 m start slots pool budget glob loc] fun x h' k => x = .o (ZB8 kind 0 m start slots pool budget glob loc) /\ k = 1 /\ h' = [] := by
 refine sE Tryz.func18 ic18_eq [.ca 2 8] fun G hP hA => ?_
 unfold evF ic18
 conv => whnf
 (refine ZAC ?_; conv => whnf); exact zF
theorem ZJ7 {kind : Int} {m : Nat} {h : Nat -> Int} {slots pool budget glob loc : Int} (hc : ZB7 kind m h slots pool budget glob loc = 0) :
  (1 <= kind /\ kind <= 7) /\ (1 <= m /\ m <= 64) /\ anyZ badH h m = false /\ (kind = 2 -> ZHD slots = true /\ (m : Int) <= slots) /\ (kind = 5 -> 1 <= pool /\ pool <= 8) /\ (kind = 7 -> (glob = 1 \/ glob = 4) /\ (loc = 1 \/ loc = 3 \/ loc = 4) /\ 1 <= budget /\ budget <= 1000) := by
 unfold ZB7 at hc
 by_cases c1 : kind < 1 \/ 7 < kind
 ·rw [if_pos c1] at hc; omega
 rw [if_neg c1] at hc
 by_cases c2 : m < 1 \/ 64 < m \/ anyZ badH h m = true
 ·rw [if_pos c2] at hc; omega
 rw [if_neg c2] at hc
 by_cases c3 : kind = 2 /\ (ZHD slots = false \/ slots < m)
 ·rw [if_pos c3] at hc; omega
 rw [if_neg c3] at hc
 by_cases c4 : kind = 5 /\ (pool < 1 \/ 8 < pool)
 ·rw [if_pos c4] at hc; omega
 rw [if_neg c4] at hc
 by_cases c5 : kind = 7 /\ (¬ (glob = 1 \/ glob = 4) \/ ¬ (loc = 1 \/ loc = 3 \/ loc = 4) \/ budget < 1 \/ 1000 < budget)
 ·rw [if_pos c5] at hc; omega
 have c2' : ¬ (m < 1) /\ ¬ (64 < m) /\ ¬ (anyZ badH h m = true) := ⟨fun q => c2 (.inl q), fun q => c2 (.inr (.inl q)), fun q => c2 (.inr (.inr q))⟩
 refine ⟨by omega, by omega, by simpa using c2'.2.2, fun hk => ⟨?_, ?_⟩, fun hk => by omega, fun hk => by omega⟩
 ·cases hs : ZHD slots with
  | true => rfl
  | false => exact absurd ⟨hk, .inl hs⟩ c3
 ·apply Classical.byContradiction
  intro hq
  exact c3 ⟨hk, .inr (by omega)⟩
theorem ZKO (f : Nat -> List Value) (m : Nat) (hm : m <= 100000) :
  ZAH Tryz.prog 55 [(0, some (.ro 4 m f))] 1 [.l (.s 0 4 0 m 0)] fun x h n => x = .o (.l (.s 1 4 0 m 0)) /\ n = 2 /\ h = [(1, some (.ar 4 m f))] := by
 refine ZAH.nil_ret (Q := fun x h n => (x = .o (.l (.s 1 4 0 m 0)) /\ n = 2 /\ h = [(1, some (.ar 4 m f))]) \/ (m = 0 /\ x = .o (.l (.v (.slice none 0 0))) /\ n = 1 /\ h = [])) ?_ ?_
 ·refine sE Tryz.func55 ic55_eq [.t 2] fun G hP hA => ?_
  unfold evF ic55
  conv => whnf
  refine ZJ5 (el := 46) (by rw [hP]; kernel_rfl) rfl fun b hb => ?_
  conv => whnf
  refine bsplit (fun h => ?_) (fun h => ?_)
  ·conv => whnf
   exact ZCs [0] (.o (.l (.v (.slice none 0 0)))) [] 1 rfl (.inr ⟨hb h, rfl, rfl, rfl⟩) rfl rfl rfl trivial rfl
  ·conv => whnf
   (repeat' ((first | refine aI ?_ | refine a64 ?_ | refine a32 ?_ | refine a8 ?_); conv => whnf))
   refine ZCs [0, 2] (.o (.l (.s 1 4 0 m 0))) [(1, some (.ar 4 m f))] 2 rfl (.inl ⟨rfl, rfl, rfl⟩) rfl rfl ?_ ?_ rfl
   ·show SV.o (.l (.s 2 4 0 (0 + m) 0)) = _
    rw [Nat.zero_add]; rfl
   ·refine ⟨?_, trivial⟩
    show ZCY _ (.ar 4 (0 + m) _) _
    refine ⟨rfl, Nat.zero_add m, fun i hi => ?_⟩
    simp [ZAI]
 ·intro x h n hx
  rcases hx with ⟨rfl, rfl, rfl⟩ | ⟨rfl, rfl, rfl, rfl⟩
  ·exact .inl ⟨rfl, rfl, rfl⟩
  ·exact .inr ⟨4, f, _, fun ρ h => ZPY ρ h, fun ρ D hD h _ => ZPZ ρ D hD h, rfl, rfl, rfl⟩
theorem ZDP (n nw ty : Nat) (hs : Nat -> Int) (X : MS) (hi : X.i <= 90000) :
  ZAH Tryz.prog 21 (ZCB n nw ty 3 hs X) 5 [.l (.p 0 0 0 0)] fun x h k => x = .o (.l (.s 5 4 0 X.i 0)) /\ k = 6 /\ h = ZCB n nw ty 3 hs X ++ [(5, some (.ar 4 X.i X.rows))] := by
 have hc := ZKO X.rows X.i (by omega)
 refine sE Tryz.func21 ic21_eq [.t 2] fun G hP hA => ?_
 unfold evF ic21
 conv => whnf
 (repeat (first | (refine mS ?_; conv => whnf) | rw [natI] | rw [ZAF] | ((first | refine ZAA hP hc ?_ | refine ZAB hP hc ?_); (conv => whnf); refine zA ?_; conv => whnf) | (refine arW ?_; conv => whnf)))
 (refine ZAC ?_; conv => whnf); exact zF
theorem ZH1 (n nw ty : Nat) (hs : Nat -> Int) (X : MS) :
  ZAH Tryz.prog 20 (ZCB n nw ty 3 hs X) 5 [.l (.p 0 0 0 0)] fun x h k => x = sInt .i64 X.now /\ k = 5 /\ h = ZCB n nw ty 3 hs X := by
 refine sE Tryz.func20 ic20_eq [.t 2] fun G hP hA => ?_
 unfold evF ic20
 conv => whnf
 (repeat (first | (refine mS ?_; conv => whnf) | rw [natI] | rw [ZAF] | (refine arW ?_; conv => whnf)))
 (refine ZAC ?_; conv => whnf); exact zF
theorem ZG2 (n nw ty : Nat) (hs : Nat -> Int) (X : MS) (t : Int) (hn : n <= 64) (hT : X.S.T = ty) :
  ZAH Tryz.prog 25 (ZCB n nw ty 3 hs X) 5 [.l (.p 0 0 0 0), .l (.v (.int .i64 t))] fun x h k => x = sInt .i64 (stV n X.S.ss.st t) /\ k = 5 /\ h = ZCB n nw ty 3 hs X := by
 have hst := ZFQ X.S n t hn
 rw [hT] at hst
 refine sE Tryz.func25 ic25_eq [.t 4] fun G hP hA => ?_
 unfold evF ic25
 conv => whnf
 (repeat (first | (refine mS ?_; conv => whnf) | rw [natI] | rw [ZAF] | ((first | refine ZAm hP hst ?_ | refine ZAh hP hst ?_); (conv => whnf); refine zA ?_; conv => whnf) | (refine arW ?_; conv => whnf)))
 (refine ZAC ?_; conv => whnf); exact zF
def ZKP (kind : Int) (m : Nat) (h : Nat -> Int) (slots pool budget glob loc : Int) (l : Nat) (most : Int) : Bool := decide (m <= 8) && decide (ZB7 kind m h slots pool budget glob loc = 0) && decide ((l : Int) <= most)
theorem ZI8 (kind : Int) (m : Nat) (h : Nat -> Int) (start slots pool budget glob loc : Int) (l : Nat) (ev : Nat -> List Value) (most : Int) :
  ZAH Tryz.prog 23 [(0, some (.ro 1 m (numE h))), (1, some (.ro 3 l ev))] 2 [ZB8 kind 0 m start slots pool budget glob loc, .l (.s 1 3 0 l 0), .l (.v (.int .i64 most))] fun x h' k => x = ZAb (ZKP kind m h slots pool budget glob loc l most) /\ k = 2 /\ h' = [] := by
 have hR := ZLF kind m h start slots pool budget glob loc
 refine sE Tryz.func23 ic23_eq [.t 6] fun G hP hA => ?_
 unfold evF ic23 ZKP
 by_cases h8 : m <= 8
 ·have hck := ZMk kind m h start slots pool budget glob loc (by omega)
  by_cases hc : ZB7 kind m h slots pool budget glob loc = 0
  ·rw [hc] at hck
   by_cases hl : (l : Int) <= most
   ·simp only [h8, hc, hl, decide_true, Bool.and_true]
    conv => whnf
    (repeat (first | (refine mS ?_; conv => whnf) | rw [natI] | rw [ZAF] | ((first | refine ZAA hP hR ?_ | refine ZAB hP hR ?_ | refine ZAA hP hck ?_ | refine ZAB hP hck ?_); (conv => whnf); refine zA ?_; conv => whnf) | (refine arW ?_; conv => whnf)))
    (refine ZAC ?_; conv => whnf); refine ⟨rfl, rfl, rfl, ZAr ?_, ZAD, rfl⟩
    simp [hl]
   ·simp only [h8, hc, hl, decide_true, decide_false, Bool.and_false]
    conv => whnf
    (repeat (first | (refine mS ?_; conv => whnf) | rw [natI] | rw [ZAF] | ((first | refine ZAA hP hR ?_ | refine ZAB hP hR ?_ | refine ZAA hP hck ?_ | refine ZAB hP hck ?_); (conv => whnf); refine zA ?_; conv => whnf) | (refine arW ?_; conv => whnf)))
    (refine ZAC ?_; conv => whnf); refine ⟨rfl, rfl, rfl, ZAr ?_, ZAD, rfl⟩
    simp [hl]
  ·simp only [h8, hc, decide_true, decide_false, Bool.and_false, Bool.false_and]
   conv => whnf
   (repeat (first | (refine mS ?_; conv => whnf) | rw [natI] | rw [ZAF] | ((first | refine ZAA hP hR ?_ | refine ZAB hP hR ?_ | refine ZAA hP hck ?_ | refine ZAB hP hck ?_); (conv => whnf); refine zA ?_; conv => whnf) | (refine arW ?_; conv => whnf)))
   (refine ZAC ?_; conv => whnf); exact zF
 ·simp only [h8, decide_false, Bool.false_and]
  conv => whnf
  (repeat (first | (refine mS ?_; conv => whnf) | rw [natI] | rw [ZAF] | (refine arW ?_; conv => whnf)))
  (refine ZAC ?_; conv => whnf); exact zF
structure Ext (b : Nat) (X Y : MS) : Prop where
 S : Y.S = X.S
 s : Y.s = X.s
 now : Y.now = X.now
 idle : Y.idle = X.idle
 sp : Y.sp = X.sp
 le : X.i <= Y.i
 most : Y.i <= X.i + b
 old : ∀ j, j < X.i -> Y.rows j = X.rows j
 new : ∀ j, X.i <= j -> j < Y.i -> ∃ k t l, Y.rows j = rowT k t X.now l
theorem Ext.refl (X : MS) : Ext 0 X X := ⟨rfl, rfl, rfl, rfl, rfl, Nat.le_refl _, Nat.le_refl _, fun _ _ => rfl, fun j h1 h2 => absurd h2 (by omega)⟩
theorem Ext.ent (X : MS) (k t : Int) (l : Bool) : Ext 1 X (X.ent k t l) := ⟨rfl, rfl, rfl, rfl, rfl, Nat.le_succ _, Nat.le_refl _, fun j h => by simp only [MS.ent, ZCL, if_pos h],
 fun j h1 h2 => ⟨k, t, l, by simp only [MS.ent, ZCL, if_neg (show ¬ j < X.i by omega)]⟩⟩
theorem Ext.trans {a b : Nat} {X Y Z : MS} (h : Ext a X Y) (g : Ext b Y Z) : Ext (a + b) X Z := by
 refine ⟨g.S.trans h.S, g.s.trans h.s, g.now.trans h.now, g.idle.trans h.idle, g.sp.trans h.sp, Nat.le_trans h.le g.le, ?_, fun j hj => ?_, fun j h1 h2 => ?_⟩
 ·have := h.most; have := g.most; omega
 ·rw [g.old j (Nat.lt_of_lt_of_le hj h.le), h.old j hj]
 ·by_cases hj : j < Y.i
  ·obtain ⟨k, t, l, e⟩ := h.new j h1 hj
   exact ⟨k, t, l, by rw [g.old j hj, e]⟩
  ·obtain ⟨k, t, l, e⟩ := g.new j (by omega) h2
   exact ⟨k, t, l, by rw [e, h.now]⟩
theorem Ext.mono {a b : Nat} {X Y : MS} (h : Ext a X Y) (hab : a <= b) : Ext b X Y := ⟨h.S, h.s, h.now, h.idle, h.sp, h.le, Nat.le_trans h.most (by omega), h.old, h.new⟩
theorem Ext.pick {a : Nat} {X Y : MS} (b : Bool) (h : Ext a X Y) : Ext a X (pick b Y X) := by
 cases b
 ·exact (Ext.refl X).mono (Nat.zero_le _)
 ·exact h
theorem ZPg (X : MS) (d : Dd) (t : Int) : Ext 3 X (X.did d t) := by
 have h1 : Ext 1 X (pick d.q (X.ent 2 t false) X) := Ext.pick _ (Ext.ent X 2 t false)
 unfold MS.did
 generalize Go.Proofs.YtlkfolopbehikaaGreat.pick d.q (X.ent 2 t false) X = X1 at h1 ⊢
 have h2 : Ext 2 X (Go.Proofs.YtlkfolopbehikaaGreat.pick d.a (X1.ent 3 t false) X1) := h1.trans (Ext.pick _ (Ext.ent X1 3 t false))
 simp only
 generalize Go.Proofs.YtlkfolopbehikaaGreat.pick d.a (X1.ent 3 t false) X1 = X2 at h2 ⊢
 have e : ∀ k l, Ext 3 X (X2.ent k t l) := fun k l => h2.trans (Ext.ent X2 k t l)
 exact ZAv _ _ _ (e _ _) (ZAv _ _ _ (e _ _) (ZAv _ _ _ (e _ _) (ZAv _ _ _ (e _ _) (h2.mono (by omega)))))
structure After (n ty : Nat) (k : Int) (X Y : MS) : Prop where
 ok : MOk n ty Y
 le : X.i <= Y.i
 most : Y.i <= X.i + 3
 old : ∀ j, j < X.i -> Y.rows j = X.rows j
 new : ∀ j, X.i <= j -> j < Y.i -> ∃ k t l, Y.rows j = rowT k t Y.now l
 now : Y.now = X.now + if k = 2 then 1 else 0
theorem Ext.after {n ty : Nat} {X X0 Y : MS} (h : Ext 3 X0 Y) (H : MOk n ty X) (hT : X0.S.T = ty) (hv : X0.S.inv n) (h1 : X0.now = X.now) (h2 : X0.i = X.i) (h3 : X0.rows = X.rows) (hi : X.i + 3 <= 90000) {k : Int} (hk : k ≠ 2) : After n ty k X Y := by
 refine ⟨⟨by rw [h.S]; exact hT, by rw [h.S]; exact hv, by rw [h.now, h1]; exact H.now, ?_⟩, ?_, ?_, fun j hj => ?_, fun j ha hb => ?_, ?_⟩
 ·have := h.most; omega
 ·have := h.le; omega
 ·have := h.most; omega
 ·rw [h.old j (by omega), h3]
 ·rw [h.now]; exact h.new j (by omega) hb
 ·rw [h.now, h1, if_neg hk]; omega
theorem MOk.same {n ty : Nat} {X : MS} (H : MOk n ty X) {k : Int} (hk : k ≠ 2) : After n ty k X X := ⟨H, Nat.le_refl _, Nat.le_add_right _ _, fun _ _ => rfl, fun j h1 h2 => absurd h1 (Nat.not_le.2 h2), by rw [if_neg hk]; omega⟩
theorem ZNX {n nw ty : Nat} {X : MS} (k t w : Int) (H : MOk n ty X) (hi : X.i + 3 <= 90000) (hnow : X.now < 1099511627776) : After n ty k X (X.do0 n nw k t w).2 := by
 unfold MS.do0
 by_cases k1 : k = 1
 ·simp only [k1, decide_true, Go.Proofs.YtlkfolopbehikaaGreat.pick]
  unfold MS.stp
  cases hb : X.busy n t with
  | true =>
   simp only
   refine (ZPg (MS.mk (X.mid n nw t.toNat).2.1 (X.mid n nw t.toNat).2.2 X.i X.rows X.now X.idle (updF X.sp t.toNat (incZ (X.sp t.toNat)))) _ _).after (k := 1) H ?_ ?_ rfl rfl rfl hi (by omega)
   ·simp only [MS.mid]; rw [LK.T_step]; exact H.T
   ·exact LK.inv_step H.inv _ _ _ _ _
  | false =>
   simp only
   exact H.same (by omega)
 by_cases k2 : k = 2
 ·subst k2
  simp only [show ¬ (2 : Int) = 1 by omega, decide_true, decide_false, Go.Proofs.YtlkfolopbehikaaGreat.pick, MS.tck, show ¬ (1099511627776 : Int) <= X.now by omega]
  refine ⟨⟨H.T, H.inv, ?_, H.i⟩, Nat.le_refl _, by simp, fun _ _ => rfl, fun j h1 h2 => absurd h1 (Nat.not_le.2 h2), ?_⟩
  ·have := H.now; simp only; omega
  ·simp
 by_cases k3 : k = 3
 ·simp only [k3, show ¬ (3 : Int) = 1 by omega, show ¬ (3 : Int) = 2 by omega, decide_true, decide_false, Go.Proofs.YtlkfolopbehikaaGreat.pick, MS.cal]
  have e : ∀ Y : MS, Ext 3 (X.wS (X.S.lock n t (X.till w))) Y -> After n ty 3 X Y := fun Y h => h.after H (by simp only [MS.wS, LK.lock]; rw [LK.T_set]; exact H.T) (LK.inv_lock H.inv _ _) rfl rfl rfl hi (by omega)
  exact ZAv (P := fun r : Bool × MS => After n ty 3 X r.2) _ _ _ (e _ ((Ext.ent _ 1 t false).mono (by omega))) (e _ ((Ext.refl _).mono (by omega)))
 by_cases k4 : k = 4
 ·simp only [k4, show ¬ (4 : Int) = 1 by omega, show ¬ (4 : Int) = 2 by omega, show ¬ (4 : Int) = 3 by omega, decide_true, decide_false, Go.Proofs.YtlkfolopbehikaaGreat.pick, MS.fin]
  have e : ∀ Y : MS, Ext 3 (X.wS (X.S.unlock n t)) Y -> After n ty 4 X Y := fun Y h => h.after H (by simp only [MS.wS, LK.unlock]; rw [LK.T_set]; exact H.T) (LK.inv_unlock H.inv _) rfl rfl rfl hi (by omega)
  exact ZAv (P := fun r : Bool × MS => After n ty 4 X r.2) _ _ _ (e _ ((Ext.ent _ 6 t false).mono (by omega))) (e _ ((Ext.refl _).mono (by omega)))
 ·simp only [k1, k2, k3, k4, decide_false, Go.Proofs.YtlkfolopbehikaaGreat.pick]
  exact H.same k2
theorem ZLM {n nw ty : Nat} {X : MS} (k t w : Int) (H : MOk n ty X) (hi : X.i + 3 <= 90000) (hnow : X.now < 1099511627776) : After n ty k X (X.Do n nw k t w).2 := by
 have h := ZNX (nw := nw) k t w H hi hnow
 unfold MS.Do
 rcases hr : X.do0 n nw k t w with ⟨b, Y⟩
 rw [hr] at h
 cases b
 ·exact ⟨⟨h.ok.T, h.ok.inv, h.ok.now, h.ok.i⟩, h.le, h.most, h.old, h.new, h.now⟩
 ·exact h

theorem ZE8 (m : Nat) (h : Nat -> Int) (start : Nat) (slots pool budget glob loc : Int) (h2 : 1 <= m /\ m <= 64) (hb : anyZ badH h m = false)  :
  ZAH Tryz.prog 16 [(0, some (.ro 1 m (numE h)))] 1 [ZB8 1 0 m start slots pool budget glob loc] fun x h' kk => x = .t [.l (.p 3 0 0 0), .l (.v (.int .i64 0))] /\ kk = 5 /\
   h' = [(1, some (.ob [2] (ZAs (ZB2 m 0 1 (fun _ => 0) (fun _ => -1) (fun _ => 0) fun _ => false) 5))), (2, some (ZBg m (2) (cutF (ZGR (fun _ => 0) 0 start) (2)) (ZER (fun _ => 0) 0 h) (fun _ => 0) (fun _ => 0) (fun _ => 0) fun _ => 0)), (3, some (.st (ZJd 221 2 1 4 m))), (4, some (.ar 1 m (numE fun _ => 0)))] := by
 have hbn := ZJH h m start slots pool budget glob loc h2 hb
 have hsl := ZBi m (fun _ => 0) (fun _ => -1) false true
 refine sE Tryz.func16 ic16_eq [.t 2, .t 3] fun G hP hA => ?_
 unfold evF ic16
 conv => whnf
 (refine ZAA hP (hbn) ?_; (conv => whnf); refine zA ?_; conv => whnf)
 refine ZAZ (ZAd 2 rfl (by decide) rfl rfl rfl) ?_
 refine ZAc hP ZKj rfl rfl ?_
 conv => whnf
 (refine ZAA hP (hsl) ?_; (conv => whnf); refine zA ?_; conv => whnf)
 (repeat' ((first | refine aI ?_ | refine a64 ?_ | refine a32 ?_ | refine a8 ?_); conv => whnf))
 (refine ZAG (H := (ZB2 m 0 1 (fun _ => 0) (fun _ => -1) (fun _ => 0) fun _ => false)) (np := 5) 2 1 (Nat.le_of_ble_eq_true rfl) ?_; conv => whnf); (refine zK ?_)
 (refine ZAC ?_; conv => whnf); exact zF
theorem ZIH (m : Nat) (h : Nat -> Int) (start slots : Nat) (pool budget glob loc : Int) (h2 : 1 <= m /\ m <= 64) (hb : anyZ badH h m = false) (hu : start < 4294967296) (hn : ZCd slots) (hmn : m <= slots) :
  ZAH Tryz.prog 16 [(0, some (.ro 1 m (numE h)))] 1 [ZB8 2 0 m start slots pool budget glob loc] fun x h' kk => x = .t [.l (.p 3 0 0 0), .l (.v (.int .i64 0))] /\ kk = 5 /\
   h' = [(1, some (.ob [2] (ZAs (ZBX m 0 slots (fun _ => 0) (fun _ => -1) (fun _ => 0) (fun _ => 0)) 4))), (2, some (ZBg m (1 + slots) (cutF (ZGU (fun _ => 0) 0 start slots) (1 + slots)) (ZDi (fun _ => 0) 0 h m slots) (fun _ => 0) (fun _ => 0) (fun _ => 0) fun _ => 0)), (3, some (.st (ZJd 224 2 1 4 m))), (4, some (.ar 1 m (numE fun _ => 0)))] := by
 have hbn := ZJR h m start slots pool budget glob loc h2 hu hn hmn hb
 have hsl := ZBi m (fun _ => 0) (fun _ => -1) false false
 refine sE Tryz.func16 ic16_eq [.t 2, .t 3] fun G hP hA => ?_
 unfold evF ic16
 conv => whnf
 (refine ZAA hP (hbn) ?_; (conv => whnf); refine zA ?_; conv => whnf)
 refine ZAZ (ZAd 2 rfl (by decide) rfl rfl rfl) ?_
 refine ZAc hP ZJY rfl rfl ?_
 conv => whnf
 (refine ZAA hP (hsl) ?_; (conv => whnf); refine zA ?_; conv => whnf)
 (repeat' ((first | refine aI ?_ | refine a64 ?_ | refine a32 ?_ | refine a8 ?_); conv => whnf))
 (refine ZAG (H := (ZBX m 0 slots (fun _ => 0) (fun _ => -1) (fun _ => 0) (fun _ => 0))) (np := 4) 2 1 (Nat.le_of_ble_eq_true rfl) ?_; conv => whnf); (refine zK ?_)
 (refine ZAC ?_; conv => whnf); exact zF
theorem ZII (m : Nat) (h : Nat -> Int) (start : Nat) (slots pool budget glob loc : Int) (h2 : 1 <= m /\ m <= 64) (hb : anyZ badH h m = false)  :
  ZAH Tryz.prog 16 [(0, some (.ro 1 m (numE h)))] 1 [ZB8 3 0 m start slots pool budget glob loc] fun x h' kk => x = .t [.l (.p 3 0 0 0), .l (.v (.int .i64 0))] /\ kk = 5 /\
   h' = [(1, some (.ob [2] (ZAs (ZDY m 0 (fun _ => 0) (fun _ => -1) (fun i => i + 1) (fun _ => 0) (fun _ => 0)) 4))), (2, some (ZBg m (2 + m) (cutF (ZJB (fun _ => 0) 0 m) (2 + m)) (ZH4 (fun _ => 0) 0 h m) (fun _ => 0) (fun _ => 0) (fun _ => 0) fun _ => 0)), (3, some (.st (ZJd 227 2 1 4 m))), (4, some (.ar 1 m (numE fun _ => 0)))] := by
 have hbn := ZJD h m start slots pool budget glob loc h2 hb
 have hsl := ZBi m (fun _ => 0) (fun _ => -1) false true
 refine sE Tryz.func16 ic16_eq [.t 2, .t 3] fun G hP hA => ?_
 unfold evF ic16
 conv => whnf
 (refine ZAA hP (hbn) ?_; (conv => whnf); refine zA ?_; conv => whnf)
 refine ZAZ (ZAd 2 rfl (by decide) rfl rfl rfl) ?_
 refine ZAc hP ZME rfl rfl ?_
 conv => whnf
 (refine ZAA hP (hsl) ?_; (conv => whnf); refine zA ?_; conv => whnf)
 (repeat' ((first | refine aI ?_ | refine a64 ?_ | refine a32 ?_ | refine a8 ?_); conv => whnf))
 (refine ZAG (H := (ZDY m 0 (fun _ => 0) (fun _ => -1) (fun i => i + 1) (fun _ => 0) (fun _ => 0))) (np := 4) 2 1 (Nat.le_of_ble_eq_true rfl) ?_; conv => whnf); (refine zK ?_)
 (refine ZAC ?_; conv => whnf); exact zF
theorem ZIJ (m : Nat) (h : Nat -> Int) (start : Nat) (slots pool budget glob loc : Int) (h2 : 1 <= m /\ m <= 64) (hb : anyZ badH h m = false)  :
  ZAH Tryz.prog 16 [(0, some (.ro 1 m (numE h)))] 1 [ZB8 4 0 m start slots pool budget glob loc] fun x h' kk => x = .t [.l (.p 3 0 0 0), .l (.v (.int .i64 0))] /\ kk = 5 /\
   h' = [(1, some (.ob [2] (ZAs (ZDZ m 0 (fun _ => 0) (fun _ => -1) (fun _ => 0) (fun _ => 0)) 4))), (2, some (ZBg m (1 + 2 * m) (cutF (ZJE (fun _ => 0) 0 m) (1 + 2 * m)) (ZH5 (fun _ => 0) 0 h m) (fun _ => 0) (fun _ => 0) (fun _ => 0) fun _ => 0)), (3, some (.st (ZJd 230 2 1 4 m))), (4, some (.ar 1 m (numE fun _ => 0)))] := by
 have hbn := ZJI h m start slots pool budget glob loc h2 hb
 have hsl := ZBi m (fun _ => 0) (fun _ => -1) false true
 refine sE Tryz.func16 ic16_eq [.t 2, .t 3] fun G hP hA => ?_
 unfold evF ic16
 conv => whnf
 (refine ZAA hP (hbn) ?_; (conv => whnf); refine zA ?_; conv => whnf)
 refine ZAZ (ZAd 2 rfl (by decide) rfl rfl rfl) ?_
 refine ZAc hP ZMF rfl rfl ?_
 conv => whnf
 (refine ZAA hP (hsl) ?_; (conv => whnf); refine zA ?_; conv => whnf)
 (repeat' ((first | refine aI ?_ | refine a64 ?_ | refine a32 ?_ | refine a8 ?_); conv => whnf))
 (refine ZAG (H := (ZDZ m 0 (fun _ => 0) (fun _ => -1) (fun _ => 0) (fun _ => 0))) (np := 4) 2 1 (Nat.le_of_ble_eq_true rfl) ?_; conv => whnf); (refine zK ?_)
 (refine ZAC ?_; conv => whnf); exact zF
theorem ZIK (m : Nat) (h : Nat -> Int) (start : Nat) (slots : Int) (pool : Nat) (budget glob loc : Int) (h2 : 1 <= m /\ m <= 64) (hb : anyZ badH h m = false) (hp : 1 <= pool /\ pool <= 8) :
  ZAH Tryz.prog 16 [(0, some (.ro 1 m (numE h)))] 1 [ZB8 5 0 m start slots pool budget glob loc] fun x h' kk => x = .t [.l (.p 3 0 0 0), .l (.v (.int .i64 0))] /\ kk = 5 /\
   h' = [(1, some (.ob [2] (ZAs (ZEh m pool 0 (fun _ => 0) (fun _ => -1) (fun _ => 0) (fun _ => 0) (fun _ => 0) (fun _ => 0)) 5))), (2, some (ZBg m (1 + 3 * pool * m) (cutF (ZDy (fun _ => 0) 0 pool m) (1 + 3 * pool * m)) (ZDj (fun _ => 0) 0 pool h m) (fun _ => 0) (fun _ => 0) (fun _ => 0) fun _ => 0)), (3, some (.st (ZJd 233 2 1 4 m))), (4, some (.ar 1 m (numE fun _ => 0)))] := by
 have hbn := ZJU h m pool start slots budget glob loc h2 hp hb
 have hsl := ZBi m (fun _ => 0) (fun _ => -1) true false
 refine sE Tryz.func16 ic16_eq [.t 2, .t 3] fun G hP hA => ?_
 unfold evF ic16
 conv => whnf
 (refine ZAA hP (hbn) ?_; (conv => whnf); refine zA ?_; conv => whnf)
 refine ZAZ (ZAd 2 rfl (by decide) rfl rfl rfl) ?_
 refine ZAc hP ZJZ rfl rfl ?_
 conv => whnf
 (refine ZAA hP (hsl) ?_; (conv => whnf); refine zA ?_; conv => whnf)
 (repeat' ((first | refine aI ?_ | refine a64 ?_ | refine a32 ?_ | refine a8 ?_); conv => whnf))
 (refine ZAG (H := (ZEh m pool 0 (fun _ => 0) (fun _ => -1) (fun _ => 0) (fun _ => 0) (fun _ => 0) (fun _ => 0))) (np := 5) 2 1 (Nat.le_of_ble_eq_true rfl) ?_; conv => whnf); (refine zK ?_)
 (refine ZAC ?_; conv => whnf); exact zF
theorem ZIL (m : Nat) (h : Nat -> Int) (start : Nat) (slots pool budget glob loc : Int) (h2 : 1 <= m /\ m <= 64) (hb : anyZ badH h m = false)  :
  ZAH Tryz.prog 16 [(0, some (.ro 1 m (numE h)))] 1 [ZB8 6 0 m start slots pool budget glob loc] fun x h' kk => x = .t [.l (.p 3 0 0 0), .l (.v (.int .i64 0))] /\ kk = 5 /\
   h' = [(1, some (.ob [2] (ZAs (ZCC m 0 (fun _ => 0) (fun _ => -1) h (fun i => i + 1) (fun _ => 0) (fun _ => 0) (fun _ => 0) (fun _ => 0)) 4))), (2, some (ZBg m (10 + m) (cutF (ZJL (fun _ => 0) 0 m) (10 + m)) (ZHN (fun _ => 0) 0 h m) (fun _ => 0) (fun _ => 0) (fun _ => 0) fun _ => 0)), (3, some (.st (ZJd 236 2 1 4 m))), (4, some (.ar 1 m (numE fun _ => 0)))] := by
 have hbn := ZJN h m start slots pool budget glob loc h2 hb
 have hsl := ZBi m (fun _ => 0) (fun _ => -1) false false
 refine sE Tryz.func16 ic16_eq [.t 2, .t 3] fun G hP hA => ?_
 unfold evF ic16
 conv => whnf
 (refine ZAA hP (hbn) ?_; (conv => whnf); refine zA ?_; conv => whnf)
 refine ZAZ (ZAd 2 rfl (by decide) rfl rfl rfl) ?_
 refine ZAc hP ZKk rfl rfl ?_
 conv => whnf
 (refine ZAA hP (hsl) ?_; (conv => whnf); refine zA ?_; conv => whnf)
 (repeat' ((first | refine aI ?_ | refine a64 ?_ | refine a32 ?_ | refine a8 ?_); conv => whnf))
 (refine ZAG (H := (ZCC m 0 (fun _ => 0) (fun _ => -1) h (fun i => i + 1) (fun _ => 0) (fun _ => 0) (fun _ => 0) (fun _ => 0))) (np := 4) 2 1 (Nat.le_of_ble_eq_true rfl) ?_; conv => whnf); (refine zK ?_)
 (refine ZAC ?_; conv => whnf); exact zF
theorem ZIM (m : Nat) (h : Nat -> Int) (start : Nat) (slots pool budget : Int) (glob loc : Nat) (h2 : 1 <= m /\ m <= 64) (hb : anyZ badH h m = false) (hg : glob = 1 \/ glob = 4) (hl : isIn loc) (hbu : 1 <= budget /\ budget <= 1000) :
  ZAH Tryz.prog 16 [(0, some (.ro 1 m (numE h)))] 1 [ZB8 7 0 m start slots pool budget glob loc] fun x h' kk => x = .t [.l (.p 3 0 0 0), .l (.v (.int .i64 0))] /\ kk = 5 /\
   h' = [(1, some (.ob [2] (ZAs (ZKh m 0 glob loc budget (cnt h m) (p0F 0 glob (fun _ => 0) (fun _ => 0)) (ZCe h m)) 13))), (2, some (ZBg m (cohN m glob loc h) (cutF (ZNk m glob loc h) (cohN m glob loc h)) (ZNj m glob loc h) (fun _ => 0) (fun _ => 0) (fun _ => 0) fun _ => 0)), (3, some (.st (ZJd 239 2 1 4 m))), (4, some (.ar 1 m (numE fun _ => 0)))] := by
 have hbn := ZJX h m glob loc start slots pool budget h2 hb hg hl hbu
 have hsl := ZBi m (fun _ => 0) (fun _ => -1) false false
 refine sE Tryz.func16 ic16_eq [.t 2, .t 3] fun G hP hA => ?_
 unfold evF ic16
 conv => whnf
 (refine ZAA hP (hbn) ?_; (conv => whnf); refine zA ?_; conv => whnf)
 refine ZAZ (ZAd 2 rfl (by decide) rfl rfl rfl) ?_
 refine ZAc hP ZIE rfl rfl ?_
 conv => whnf
 (refine ZAA hP (hsl) ?_; (conv => whnf); refine zA ?_; conv => whnf)
 (repeat' ((first | refine aI ?_ | refine a64 ?_ | refine a32 ?_ | refine a8 ?_); conv => whnf))
 refine ZBF (ZCW [2, 3, 4, 5, 6, 7, 8, 9, 10, 11, 12, 13, 14] (H := (ZKh m 0 glob loc budget (cnt h m) (p0F 0 glob (fun _ => 0) (fun _ => 0)) (ZCe h m))) (np := 13) 1 rfl (by decide) rfl rfl ?_ rfl) (Nat.le_of_ble_eq_true rfl) ?_
 ·exact ZAD
 conv => whnf
 (refine ZAC ?_; conv => whnf); exact zF
theorem ZHH {H H' : Heap} {np : Nat} (h1 : ZBS id H H') (h2 : ∀ k e, hget H k = some e -> ∃ e', hget H' k = some e') {ls : List Go.Sx.Loc} {l : Go.Sx.Loc} {F : List Nat} {w : World} (h : ZAs H np ls l F w) : ZAs H' np ls l F w := by
 obtain ⟨ρ, φ, a1, a2, a3, a4⟩ := h
 have get : ∀ k e, hget H' k = some e -> ∃ e', hget H k = some e' /\ ZCY id e' e := fun k e hk => h1.get (ZAo hk)
 refine ⟨ρ, φ, a1, a2, ⟨fun k e hk => ?_, fun k e hk => ?_, fun k k' e e' hk hk' hne ho => ?_, fun k e hk => ?_⟩, fun b => ⟨fun hb => ?_, fun ⟨k, e, hk, hb⟩ => ?_⟩⟩
 ·obtain ⟨e', q1, q2⟩ := get k e hk
  exact q2.at_ (fun _ h => h) (a3.at_ k e' q1)
 ·obtain ⟨e', q1, _⟩ := get k e hk; exact a3.lt k e' q1
 ·obtain ⟨e1, q1, q2⟩ := get k e hk
  obtain ⟨e2, q3, _⟩ := get k' e' hk'
  exact a3.dj k k' e1 e2 q1 q3 hne (q2.own ho)
 ·obtain ⟨e', q1, _⟩ := get k e hk; exact a3.sz k e' q1
 ·obtain ⟨k, e, hk, hbk⟩ := (a4 b).1 hb
  obtain ⟨e', q1⟩ := h2 k e hk
  exact ⟨k, e', q1, hbk⟩
 ·obtain ⟨e', q1, _⟩ := get k e hk
  exact (a4 b).2 ⟨k, e', q1, hb⟩
def in1 (kd M : Nat) : K1 := match kd with
 | 1 => .fl M (M + 1) ⟨⟨fun _ => 0, fun _ => -1⟩, fun _ => 0, fun _ => false⟩
 | 3 => .cl M ⟨⟨fun _ => 0, fun _ => -1⟩, fun i => i + 1, fun _ => 0, fun _ => 0⟩
 | _ => .mc M ⟨⟨fun _ => 0, fun _ => -1⟩, fun _ => 0, fun _ => 0⟩
theorem ZQh {kd : Nat} (hk : isIn kd) (n M : Nat) : (in1 kd M).R n = inR1 kd n M := by rcases hk with rfl | rfl | rfl <;> rfl
theorem ZQi {kd : Nat} (hk : isIn kd) (M : Nat) : (in1 kd M).T = inT kd := by rcases hk with rfl | rfl | rfl <;> rfl
theorem ZNV {kd : Nat} (hk : isIn kd) (n M : Nat) (hM : M <= 4096) : (in1 kd M).inv n := by
 rcases hk with rfl | rfl | rfl
 ·exact ⟨trivial, trivial⟩
 ·exact ⟨⟨by omega, by omega⟩, trivial⟩
 ·exact ⟨trivial, trivial⟩
structure MNew (m : Nat) (h : Nat -> Int) (c : AV) (S : LK) (nw : Nat) (hs : Nat -> Int) (s : PS) : Prop where
 spec : ZAH Tryz.prog 16 [(0, some (.ro 1 m (numE h)))] 1 [c] fun x h' kk => x = .t [.l (.p 3 0 0 0), .l (.v (.int .i64 0))] /\ kk = 5 /\
  h' = [(1, some (.ob [2] (S.R m))), (2, some (ZBO m nw hs s)), (3, some (.st (ZJd S.T 2 1 4 m))), (4, some (.ar 1 m (numE fun _ => 0)))]
 inv : S.inv m
 nw : nw <= 4096
 ss : S.ss = ⟨fun _ => 0, fun _ => -1⟩
def ps0 (ws : Nat -> Int) : PS := ⟨ws, fun _ => 0, fun _ => 0, fun _ => 0, fun _ => 0⟩
theorem ZNW (h : Nat -> Int) (c : Nat) : ∀ (i t : Nat), t < i -> h t = (c : Int) -> 0 < cnt h i c
 | i + 1, t, ht, hc => by
  simp only [cnt]
  by_cases e : t = i
  ·subst e; rw [if_pos hc]; omega
  ·have := ZNW h c i t (by omega) hc
   omega
theorem ZE2 {h : Nat -> Int} : ∀ {m : Nat}, anyZ badH h m = false -> ∀ t, t < m -> 0 <= h t /\ h t < 8
 | m + 1, hb, t, ht => by
  simp only [anyZ, Bool.or_eq_false_iff] at hb
  by_cases e : t = m
  ·subst e
   have := hb.2
   simp only [badH, Bool.or_eq_false_iff, decide_eq_false_iff_not] at this
   omega
  ·exact ZE2 hb.1 t (by omega)
def coK (m g l : Nat) (budget : Int) (h : Nat -> Int) : CK := ⟨0, budget, cnt h m, fun t => (h t).toNat, fun t => (cnt h t (h t).toNat : Int), inT g, inT l⟩
def coL (m g l : Nat) (h : Nat -> Int) : CO := ⟨⟨fun _ => 0, fun _ => -1⟩, fun _ => 0, fun _ => 0, in1 g 8, fun c => in1 l (l3 l (cnt h m) (p0F 0 g (fun _ => 0) (fun _ => 0)) c).1⟩
theorem ZQj {m g l : Nat} {budget : Int} {h : Nat -> Int} (hg : isIn g) (hl : isIn l) (hb : anyZ badH h m = false) {ls : List Go.Sx.Loc} {lc : Go.Sx.Loc} {F : List Nat} {w : World}
  (hp : ZAs (ZKh m 0 g l budget (cnt h m) (p0F 0 g (fun _ => 0) (fun _ => 0)) (ZCe h m)) 13 ls lc F w) : (LK.c (coK m g l budget h) (coL m g l h)).R m ls lc F w := by
 have e : ∀ c, (in1 l (l3 l (cnt h m) (p0F 0 g (fun _ => 0) (fun _ => 0)) c).1).R (cnt h m c) = inR1 l (cnt h m c) (l3 l (cnt h m) (p0F 0 g (fun _ => 0) (fun _ => 0)) c).1 := fun c => ZQh hl _ _
 have eg : (in1 g 8).R 8 = inR1 g 8 8 := ZQh hg _ _
 have ob : ∀ c, ZCY id (.ob [1] (OptR (lb (cnt h m) 8 c) (inR1 l (cnt h m c) (l3 l (cnt h m) (p0F 0 g (fun _ => 0) (fun _ => 0)) c).1))) (.ob [1] (OptR (lb (cnt h m) 8 c) ((in1 l (l3 l (cnt h m) (p0F 0 g (fun _ => 0) (fun _ => 0)) c).1).R (cnt h m c)))) := fun c => by rw [e c]; exact ⟨rfl, .inl rfl⟩
 refine ZHH ?_ ?_ hp
 ·refine ⟨rfl, ⟨rfl, .inl rfl⟩, ?_, ⟨rfl, rfl, fun i hi => ?_⟩, ob 0, ob 1, ob 2, ob 3, ob 4, ob 5, ob 6, ob 7, trivial⟩
  ·show ZCY id (.ob [1] (inR1 g 8 (0 + 8))) (.ob [1] ((in1 g 8).R 8))
   rw [eg]; exact ⟨rfl, .inl rfl⟩
  ·have h0 := (ZE2 hb i hi).1
   show ZCe h m i = plE (fun t => (h t).toNat) (fun t => (cnt h t (h t).toNat : Int)) (fun _ => 0) (fun _ => 0) i
   simp only [ZCe, ZLR, plE, tdV, if_pos hi]
   rw [show ((h i).toNat : Int) = h i from by omega]
 ·intro k e hk
  have h1 := ZAo hk
  simp only [ZKh, List.mem_cons, Prod.mk.injEq, List.not_mem_nil, or_false] at h1
  rcases h1 with ⟨rfl, _⟩ | ⟨rfl, _⟩ | ⟨rfl, _⟩ | ⟨rfl, _⟩ | ⟨rfl, _⟩ | ⟨rfl, _⟩ | ⟨rfl, _⟩ | ⟨rfl, _⟩ | ⟨rfl, _⟩ | ⟨rfl, _⟩ | ⟨rfl, _⟩ | ⟨rfl, _⟩ <;> exact ⟨_, rfl⟩
theorem ZQk {m E : Nat} {tail : Int} {st dl sp tr no ot : Nat -> Int} (hm : 1 <= m) {ls : List Go.Sx.Loc} {lc : Go.Sx.Loc} {F : List Nat} {w : World} (hp : ZAs (ZEh m E tail st dl sp tr no ot) 5 ls lc F w) : ZAs (ZBx m E tail st dl sp tr no ot) 5 ls lc F w := by
 refine ZHH ?_ ?_ hp
 ·exact ⟨rfl, ZAD, ⟨rfl, .inr ⟨fun ls => ZEw _ _ _, fun ls l F w hh => ZNE hm hh⟩⟩, ZAD, trivial⟩
 ·intro k e hk
  have h1 := ZAo hk
  simp only [ZEh, List.mem_cons, Prod.mk.injEq, List.not_mem_nil, or_false] at h1
  rcases h1 with ⟨rfl, _⟩ | ⟨rfl, _⟩ | ⟨rfl, _⟩ | ⟨rfl, _⟩ <;> exact ⟨_, rfl⟩
theorem ZPf {m g l : Nat} {budget : Int} {h : Nat -> Int} (hm : m <= 64) (hg : isIn g) (hl : isIn l) (hb : anyZ badH h m = false) : ZCy (coK m g l budget h) m (coL m g l h) := by
 have hp : (p0F 0 g (fun _ => 0) (fun _ => 0)).1 <= 26 := by
  have := ZLQ g 8
  show 0 + 8 + inN g 8 <= 26
  omega
 refine ⟨⟨Nat.zero_le _, fun t ht => ⟨?_, ?_, ?_⟩⟩, ⟨ZNV hg _ _ (by omega), ZQi hg _⟩, fun t ht => ⟨ZNV hl _ _ ?_, ZQi hl _⟩, fun t ht => .inl rfl⟩
 ·have := ZE2 hb t ht
  show (h t).toNat < 8
  omega
 ·have h1 := ZE2 hb t ht
  have h2 := ZNW h (h t).toNat m t ht (by omega)
  show lb (cnt h m) 8 (h t).toNat = true
  simp only [lb, Bool.and_eq_true]
  exact ⟨by rw [Nat.blt_eq]; omega, by rw [Nat.blt_eq]; exact h2⟩
 ·exact Nat.le_trans (ZHO h m _) hm
 ·have h1 := ZE2 hb t ht
  have h2 := ZGV (l := l) (p0 := p0F 0 g (fun _ => 0) fun _ => 0) (cn := cnt h m) (fun j => Nat.le_trans (ZHO h m j) hm) (h t).toNat
  show (l3 l (cnt h m) (p0F 0 g (fun _ => 0) (fun _ => 0)) (h t).toNat).1 <= 4096
  omega
theorem ZKM {kind : Int} {m : Nat} {h : Nat -> Int} {start : Nat} {slots pool budget glob loc : Int} (hc : ZB7 kind m h slots pool budget glob loc = 0) (hst : start < 4294967296) :
  ∃ S nw hs s, MNew m h (ZB8 kind 0 m start slots pool budget glob loc) S nw hs s := by
 obtain ⟨h1, h2, hb, h3, h5, h7⟩ := ZJ7 hc
 rcases (show kind = 1 \/ kind = 2 \/ kind = 3 \/ kind = 4 \/ kind = 5 \/ kind = 6 \/ kind = 7 by omega) with rfl | rfl | rfl | rfl | rfl | rfl | rfl
 ·exact ⟨.s (.fl 0 1 ⟨⟨fun _ => 0, fun _ => -1⟩, fun _ => 0, fun _ => false⟩), _, _, ps0 _, ZE8 m h start slots pool budget glob loc h2 hb, ⟨trivial, trivial⟩, by omega, rfl⟩
 ·obtain ⟨hs1, hs2⟩ := h3 rfl
  obtain ⟨n, rfl, hn⟩ := ZPG hs1
  exact ⟨.s (.sl 0 n ⟨⟨fun _ => 0, fun _ => -1⟩, fun _ => 0, fun _ => 0⟩), _, _, ps0 _, ZIH m h start n pool budget glob loc h2 hb hst hn (by omega), ⟨⟨hn, by omega, by omega⟩, trivial⟩, by unfold ZCd at hn; omega, rfl⟩
 ·exact ⟨.s (.cl 0 ⟨⟨fun _ => 0, fun _ => -1⟩, fun i => i + 1, fun _ => 0, fun _ => 0⟩), _, _, ps0 _, ZII m h start slots pool budget glob loc h2 hb, ⟨⟨by omega, by omega⟩, trivial⟩, by omega, rfl⟩
 ·exact ⟨.s (.mc 0 ⟨⟨fun _ => 0, fun _ => -1⟩, fun _ => 0, fun _ => 0⟩), _, _, ps0 _, ZIJ m h start slots pool budget glob loc h2 hb, ⟨trivial, trivial⟩, by omega, rfl⟩
 ·have h5 := h5 rfl
  obtain ⟨n, rfl⟩ : ∃ n : Nat, pool = n := ⟨pool.toNat, by omega⟩
  have hn8 : n * m <= 8 * 64 := Nat.mul_le_mul (by omega) h2.2
  have hn9 : 3 * n * m = 3 * (n * m) := by rw [Nat.mul_assoc]
  refine ⟨.s (.ab n 0 ⟨⟨fun _ => 0, fun _ => -1⟩, fun _ => 0, fun _ => 0, fun _ => 0, fun _ => 0⟩), 1 + 3 * n * m, ZDj (fun _ => 0) 0 n h m, ps0 (cutF (ZDy (fun _ => 0) 0 n m) (1 + 3 * n * m)), ?_, ⟨⟨by omega, fun t ht a b => by simp at a⟩, by omega, fun t ht => ⟨by simp, fun _ => rfl⟩⟩, ?_, rfl⟩
  ·refine ZAH.refin (ZIK m h start slots n budget glob loc h2 hb (by omega)) ?_
   rintro x h' k ⟨rfl, rfl, rfl⟩ _
   conv => whnf
   (refine ZAC ?_; conv => whnf); refine ⟨rfl, rfl, rfl, ?_, ?_, rfl⟩
   ·rfl
   ·exact ⟨⟨rfl, .inr ⟨fun ls => LK.stable _ _ ls, fun ls l F w hh => ZQk h2.1 hh⟩⟩, ZAD, ZAD, ZAD, trivial⟩
  ·rw [hn9]; omega
 ·exact ⟨.s (.hi 0 ⟨⟨fun _ => 0, fun _ => -1⟩, h, fun i => i + 1, fun _ => 0, fun _ => 0, fun _ => 0, fun _ => 0⟩), _, _, ps0 _, ZIL m h start slots pool budget glob loc h2 hb, ⟨⟨by omega, by omega⟩, trivial⟩, by omega, rfl⟩
 ·obtain ⟨hg, hl, hbu⟩ := h7 rfl
  obtain ⟨g, rfl⟩ : ∃ g : Nat, glob = g := ⟨glob.toNat, by omega⟩
  obtain ⟨l, rfl⟩ : ∃ l : Nat, loc = l := ⟨loc.toNat, by omega⟩
  have hgi : isIn g := by unfold isIn; omega
  have hli : isIn l := by unfold isIn; omega
  refine ⟨.c (coK m g l budget h) (coL m g l h), cohN m g l h, ZNj m g l h, ps0 (cutF (ZNk m g l h) (cohN m g l h)), ?_, ZPf h2.2 hgi hli hb, ?_, rfl⟩
  ·refine ZAH.refin (ZIM m h start slots pool budget g l h2 hb (by omega) hli hbu) ?_
   rintro x h' k ⟨rfl, rfl, rfl⟩ _
   conv => whnf
   (refine ZAC ?_; conv => whnf); refine ⟨rfl, rfl, rfl, ?_, ?_, rfl⟩
   ·rfl
   ·exact ⟨⟨rfl, .inr ⟨fun ls => LK.stable _ _ ls, fun ls l F w hh => ZQj hgi hli hb hh⟩⟩, ZAD, ZAD, ZAD, trivial⟩
  ·exact Nat.le_trans (ZNl m g l h h2.2) (by decide)
def evR (ek et ew : Nat -> Int) : Nat -> List Value := fun i => [.int .i64 (ek i), .int .i64 (et i), .int .i64 (ew i)]
def MS.run (n nw : Nat) (ek et ew : Nat -> Int) (X : MS) : Nat -> Int × MS
 | 0 => (0, X)
 | i + 1 => ((MS.run n nw ek et ew X i).1 + (match ((MS.run n nw ek et ew X i).2.Do n nw (ek i) (et i) (ew i)).1 with | true => 1 | false => 0), ((MS.run n nw ek et ew X i).2.Do n nw (ek i) (et i) (ew i)).2)
structure Ran (n ty k : Nat) (X Y : MS) : Prop where
 ok : MOk n ty Y
 most : Y.i <= X.i + 3 * k
 now : X.now <= Y.now /\ Y.now <= X.now + k
theorem ZKR {n nw ty : Nat} (ek et ew : Nat -> Int) {X : MS} (H : MOk n ty X) {l : Nat} (hi : X.i + 3 * l <= 90000) (hnow : X.now + l <= 1099511627776) : ∀ k, k <= l -> Ran n ty k X (MS.run n nw ek et ew X k).2 /\ 0 <= (MS.run n nw ek et ew X k).1 /\ (MS.run n nw ek et ew X k).1 <= k
 | 0, _ => ⟨⟨H, by simp [MS.run], by simp [MS.run]⟩, by simp [MS.run], by simp [MS.run]⟩
 | k + 1, hk => by
  obtain ⟨⟨h1, h2, h3⟩, h4, h5⟩ := ZKR ek et ew H hi hnow k (by omega)
  have hd := ZLM (nw := nw) (ek k) (et k) (ew k) h1 (by omega) (by omega)
  refine ⟨⟨hd.ok, ?_, ?_⟩, ?_, ?_⟩
  ·have := hd.most
   show ((MS.run n nw ek et ew X k).2.Do n nw (ek k) (et k) (ew k)).2.i <= _
   omega
  ·have := hd.now
   show X.now <= ((MS.run n nw ek et ew X k).2.Do n nw (ek k) (et k) (ew k)).2.now /\ ((MS.run n nw ek et ew X k).2.Do n nw (ek k) (et k) (ew k)).2.now <= _
   split at this <;> omega
  ·show 0 <= (MS.run n nw ek et ew X k).1 + _
   split <;> omega
  ·show (MS.run n nw ek et ew X k).1 + _ <= _
   split <;> omega
theorem ZI9 (n nw ty : Nat) (hs : Nat -> Int) (X : MS) (ek et ew : Nat -> Int) (l : Nat) (hn : n <= 64) (hnw : nw <= 4096) (H : MOk n ty X) (hi : X.i + 3 * l <= 90000) (hnow : X.now + l <= 1099511627776) (hl : l <= 10000) :
  ZAH Tryz.prog 27 (ZCB n nw ty 3 hs X ++ [(5, some (.ro 3 l (evR ek et ew)))]) 6 [.l (.p 0 0 0 0), .l (.s 5 3 0 l 0)] fun x h k =>
   x = sInt .i64 (MS.run n nw ek et ew X l).1 /\ k = 7 /\ h = ZCB n nw ty 6 hs (MS.run n nw ek et ew X l).2 := by
 refine sE Tryz.func27 ic27_eq [.t 4] fun G hP hA => ?_
 unfold evF ic27
 conv => whnf
 refine ZAn (α := Nat) (ds := []) (N := 7) (fun i => [(10, sInt .i64 (i : Int)), (5, sInt .i64 (MS.run n nw ek et ew X i).1)]) []
  (fun i => (3, none) :: ZCB n nw ty 6 hs (MS.run n nw ek et ew X i).2)
  (fun i => i <= l) (fun i => l - i) 0 (Nat.zero_le _) ?_ fun i hi2 => ?_
 ·(conv => whnf); (refine ZAU hA ?_; conv => whnf); exact zI
 ·obtain ⟨⟨h1, h2, h3⟩, h4, h5⟩ := ZKR (nw := nw) ek et ew H hi hnow i hi2
  have hd := ZGE n nw ty hs (MS.run n nw ek et ew X i).2 (ek i) (et i) (ew i) hn hnw h1
  conv => whnf
  refine dsplit (fun hq => ?_) (fun hq => ?_)
  ·have hq' : (i : Int) < (l : Int) := hq
   rcases hD : (MS.run n nw ek et ew X i).2.Do n nw (ek i) (et i) (ew i) with ⟨b, Y⟩
   rw [hD] at hd
   cases b with
   | true =>
    have e : MS.run n nw ek et ew X (i + 1) = ((MS.run n nw ek et ew X i).1 + 1, Y) := by simp only [MS.run, hD]
    conv => whnf
    (repeat (first | (refine mS ?_; conv => whnf) | rw [natI] | rw [ZAF] | ((first | refine ZAA hP hd ?_ | refine ZAB hP hd ?_); (conv => whnf); refine zA ?_; conv => whnf) | (refine arW ?_; conv => whnf)))
    refine ⟨i + 1, by omega, by omega, ?_⟩
    simp only [e]
    (conv => whnf); (refine ZAU hA ?_; conv => whnf); exact zI
   | false =>
    have e : MS.run n nw ek et ew X (i + 1) = ((MS.run n nw ek et ew X i).1, Y) := by simp only [MS.run, hD, Int.add_zero]
    conv => whnf
    (repeat (first | (refine mS ?_; conv => whnf) | rw [natI] | rw [ZAF] | ((first | refine ZAA hP hd ?_ | refine ZAB hP hd ?_); (conv => whnf); refine zA ?_; conv => whnf) | (refine arW ?_; conv => whnf)))
    refine ⟨i + 1, by omega, by omega, ?_⟩
    simp only [e]
    (conv => whnf); (refine ZAU hA ?_; conv => whnf); exact zI
  ·have hq' : ¬ (i : Int) < (l : Int) := hq
   obtain rfl : i = l := by omega
   conv => whnf
   (refine ZAC ?_; conv => whnf); exact zF
def ekA : Nat -> Int := fun i => match i with | 0 => 3 | _ => 1
def etA : Nat -> Int := fun _ => 0
def ewA : Nat -> Int := fun i => match i with | 0 => -1 | _ => 0
def x0A : MS := ⟨.s (.fl 0 1 ⟨⟨fun _ => 0, fun _ => -1⟩, fun _ => 0, fun _ => false⟩), ⟨cutF (ZGR (fun _ => 0) 0 (0 : Nat)) 2, fun _ => 0, fun _ => 0, fun _ => 0, fun _ => 0⟩, 0, fun _ => [], 0, 0, fun _ => 0⟩
theorem x3A : (MS.run 1 2 ekA etA ewA x0A 3).1 = 3 /\ (MS.run 1 2 ekA etA ewA x0A 3).2.i = 3 /\ (MS.run 1 2 ekA etA ewA x0A 3).2.S.T = 221 /\ stV 1 (MS.run 1 2 ekA etA ewA x0A 3).2.S.ss.st 0 = 2 /\ (MS.run 1 2 ekA etA ewA x0A 3).2.rows 0 = rowT 1 0 0 false /\ (MS.run 1 2 ekA etA ewA x0A 3).2.rows 1 = rowT 2 0 0 false /\ (MS.run 1 2 ekA etA ewA x0A 3).2.rows 2 = rowT 4 0 0 false := by
 refine ⟨by kernel_rfl, by kernel_rfl, by kernel_rfl, by kernel_rfl, by kernel_rfl, by kernel_rfl, by kernel_rfl⟩
theorem ZGN : ZAH Tryz.prog 15 [] 0 [] fun x h n => x = ZAb true /\ n = 0 /\ h = [] := by
 have hmn := ZE8 1 (fun _ => 0) 0 0 0 0 0 0 (by omega) rfl
 have hok : MOk 1 221 x0A := ⟨rfl, ⟨trivial, trivial⟩, by simp [x0A], by simp [x0A]⟩
 have hrun := ZI9 1 2 221 (ZER (fun _ => 0) 0 (fun _ => 0)) x0A ekA etA ewA 3 (by omega) (by omega) hok (by simp [x0A]) (by simp [x0A]) (by omega)
 obtain ⟨a1, a2, a3, a4, a5, a6, a7⟩ := x3A
 generalize MS.run 1 2 ekA etA ewA x0A 3 = r at hrun a1 a2 a3 a4 a5 a6 a7
 obtain ⟨n3, X3⟩ := r
 simp only at a1 a2 a3 a4 a5 a6 a7 hrun
 subst a1
 have htr := ZDP 1 2 221 (ZER (fun _ => 0) 0 (fun _ => 0)) X3 (by omega)
 have hst := ZG2 1 2 221 (ZER (fun _ => 0) 0 (fun _ => 0)) X3 0 (by omega) a3
 rw [a4] at hst
 have b5 : X3.rows (nadd 0 (Int.toNat 0)) = rowT 1 0 0 false := a5
 have b6 : X3.rows (nadd 0 (Int.toNat 1)) = rowT 2 0 0 false := a6
 have b7 : X3.rows (nadd 0 (Int.toNat 2)) = rowT 4 0 0 false := a7
 refine sE Tryz.func15 ic15_eq [.t 0] fun G hP hA => ?_
 unfold evF ic15
 conv => whnf
 (refine ZAA hP (hmn) ?_; (conv => whnf); refine zA ?_; conv => whnf)
 refine ZKz (v := [_, _]) (ZAV.nilc 3 2 4 (fun _ => []) rfl rfl) ?_
 (refine ZAA hP (hrun) ?_; conv => whnf); refine ⟨⟨rfl, rfl, rfl, ?_, rfl, rfl⟩, ?_⟩
 ·refine ⟨ZAD, ZAD, ZAD, ZAD, ZAD, ⟨rfl, Nat.le_refl 3, fun j hj => ?_⟩, trivial⟩
  rcases (show j = 0 \/ j = 1 \/ j = 2 by omega) with rfl | rfl | rfl <;> rfl
 conv => whnf
 (repeat (first | (rw [b5]) | (rw [b6]) | (rw [b7]) | ((first | refine aI ?_ | refine a64 ?_ | refine a32 ?_ | refine dY ?_ | refine dN ?_ | refine ZAE ?_ | refine dI hP ?_); conv => whnf) | (refine And.intro (by (conv => whnf); first | exact ⟨rfl, rfl, rfl⟩ | (refine And.intro (by (first | omega | assumption | (simp only [ZAI]; omega) | (simp [ZAI]; omega))) ?_; (conv => whnf); first | exact ⟨rfl, rfl, rfl⟩ | (refine ⟨?_, ?_, ?_⟩ <;> first | rfl | (rw [ZAF]; first | done | rfl) | (rw [b5]; first | done | rfl) | (rw [b6]; first | done | rfl) | (rw [b7]; first | done | rfl))) | (refine ⟨?_, ?_, ?_⟩ <;> first | rfl | (rw [ZAF]; first | done | rfl) | (rw [b5]; first | done | rfl) | (rw [b6]; first | done | rfl) | (rw [b7]; first | done | rfl))) ?_; conv => whnf) | rw [natI] | rw [ZAF] | ((first | refine ZAA hP htr ?_ | refine ZAB hP htr ?_ | refine ZAA hP hst ?_ | refine ZAB hP hst ?_); (conv => whnf); refine zA ?_; conv => whnf) | (refine arW ?_; conv => whnf)))
 (refine ZAC ?_; conv => whnf); exact zF
theorem ZNY (haw : ZAH Tryz.prog 15 [] 0 [] fun x h n => x = ZAb true /\ n = 0 /\ h = []) (kind : Int) (m : Nat) (h : Nat -> Int) (start slots pool budget glob loc : Int) (l : Nat) (ev : Nat -> List Value) (hf : ZKP kind m h slots pool budget glob loc l 300 = false) :
  ZAH Tryz.prog 5 [(0, some (.ro 1 m (numE h))), (1, some (.ro 3 l ev))] 2 [ZB8 kind 0 m start slots pool budget glob loc, .l (.s 1 3 0 l 0)] fun x h' k => x = ZAb true /\ k = 2 /\ h' = [] := by
 have hfi := ZI8 kind m h start slots pool budget glob loc l ev 300
 rw [hf] at hfi
 refine sE Tryz.func5 ic5_eq [.t 4] fun G hP hA => ?_
 unfold evF ic5
 conv => whnf
 (repeat (first | (refine mS ?_; conv => whnf) | rw [natI] | rw [ZAF] | ((first | refine ZAA hP hfi ?_ | refine ZAB hP hfi ?_); (conv => whnf); refine zA ?_; conv => whnf) | ((first | refine ZAA hP haw ?_ | refine ZAB hP haw ?_); (conv => whnf); refine zA ?_; conv => whnf) | (refine arW ?_; conv => whnf)))
 (refine ZAC ?_; conv => whnf); exact zF
def ms0 (S : LK) (s : PS) : MS := ⟨S, s, 0, fun _ => [], 0, 0, fun _ => 0⟩
theorem ZQl {m : Nat} {h : Nat -> Int} {c : AV} {S : LK} {nw : Nat} {hs : Nat -> Int} {s : PS} (N : MNew m h c S nw hs s) : MOk m S.T (ms0 S s) := ⟨rfl, N.inv, by simp [ms0], by simp [ms0]⟩
def ZRB (m nw ty tr : Nat) (hs : Nat -> Int) (X : MS) : Heap := [(5, some (.st (ZOu ty 4 3 tr 6 m X.i X.now X.idle))), (4, some (ZBO m nw hs X.s)), (3, some (.ob [4] (X.S.R m))), (tr, some (.ar 4 X.i X.rows)), (6, some (.ar 1 m (numE X.sp)))]
theorem ZNZ (haw : ZAH Tryz.prog 15 [] 0 [] fun x h n => x = ZAb true /\ n = 0 /\ h = []) (kind : Int) (m : Nat) (h : Nat -> Int) (start slots pool budget glob loc : Int) (l : Nat) (ek et ew : Nat -> Int) (hf : ZKP kind m h slots pool budget glob loc l 300 = true) (hm : m <= 8) (hl : l <= 300)
  (S : LK) (nw : Nat) (hs : Nat -> Int) (s : PS) (N : MNew m h (ZB8 kind 0 m start slots pool budget glob loc) S nw hs s) :
  ZAH Tryz.prog 5 [(0, some (.ro 1 m (numE h))), (1, some (.ro 3 l (evR ek et ew)))] 2 [ZB8 kind 0 m start slots pool budget glob loc, .l (.s 1 3 0 l 0)] fun x h' k => x = ZAb true /\ k = 2 /\ h' = [] := by
 have hfi := ZI8 kind m h start slots pool budget glob loc l (evR ek et ew) 300
 rw [hf] at hfi
 have hmn := N.spec
 refine sE Tryz.func5 ic5_eq [.t 4] fun G hP hA => ?_
 unfold evF ic5
 conv => whnf
 (repeat (first | (refine mS ?_; conv => whnf) | rw [natI] | rw [ZAF] | ((first | refine ZAA hP hfi ?_ | refine ZAB hP hfi ?_ | refine ZAA hP hmn ?_ | refine ZAB hP hmn ?_); (conv => whnf); refine zA ?_; conv => whnf) | (refine arW ?_; conv => whnf)))
 have hm0 := ZQl N
 have hi0 : (ms0 S s).i + 3 * l <= 90000 := by simp only [ms0]; omega
 have hn0 : (ms0 S s).now + l <= 1099511627776 := by simp only [ms0]; omega
 refine ZAn (α := Nat) (ds := []) (N := 9) (fun i => [(32, sInt .i64 (i : Int)), (7, sInt .i64 (MS.run m nw ek et ew (ms0 S s) i).2.now)]) []
  (fun i => ZRB m nw S.T 8 hs (MS.run m nw ek et ew (ms0 S s) i).2)
  (fun i => i <= l) (fun i => l - i) 0 (Nat.zero_le _) ?_ fun i hi2 => ?_
 ·conv => whnf
  refine Imp.trans (ZPF 5 2 4 _ rfl rfl) ?_
  refine ZAW hA [0, 1, 2, 3, 4, 5, 6, 7, 7] rfl rfl rfl ZAe ?_ rfl
  exact ZAD
 ·obtain ⟨⟨h1, h2, h3⟩, h4, h5⟩ := ZKR (nw := nw) ek et ew hm0 hi0 hn0 i hi2
  have hx1 : (MS.run m nw ek et ew (ms0 S s) i).2.i <= 1000 := by simp only [ms0] at h2 ⊢; omega
  have hx2 : (MS.run m nw ek et ew (ms0 S s) i).2.now < 1000 := by simp only [ms0] at h3 ⊢; omega
  have hd := ZGE m nw S.T hs (MS.run m nw ek et ew (ms0 S s) i).2 (ek i) (et i) (ew i) (by omega) N.nw h1
  have hA3 := ZLM (nw := nw) (ek i) (et i) (ew i) h1 (by omega) (by omega)
  rcases hD : (MS.run m nw ek et ew (ms0 S s) i).2.Do m nw (ek i) (et i) (ew i) with ⟨b, Y⟩
  rw [hD] at hd hA3
  simp only at hd hA3
  have e : (MS.run m nw ek et ew (ms0 S s) (i + 1)).2 = Y := by
   show ((MS.run m nw ek et ew (ms0 S s) i).2.Do m nw (ek i) (et i) (ew i)).2 = Y
   rw [hD]
  have htr := ZDP m nw S.T hs (MS.run m nw ek et ew (ms0 S s) i).2 (by omega)
  have htr2 := ZDP m nw S.T hs Y hA3.ok.i
  have hnw := ZH1 m nw S.T hs Y
  have hx3 := h1.now
  have hle := hA3.le
  have hmost := hA3.most
  conv => whnf
  refine dsplit (fun hq => ?_) (fun hq => ?_)
  ·have hq' : (i : Int) < (l : Int) := hq
   by_cases hk : ek i = 2
   ·have hY : Y.now = (MS.run m nw ek et ew (ms0 S s) i).2.now + 1 := by have := hA3.now; rw [if_pos hk] at this; exact this
    conv => whnf
    (repeat (first | (refine mS ?_; conv => whnf) | rw [natI] | rw [ZAF] | ((first | refine ZAA hP htr ?_ | refine ZAB hP htr ?_ | refine ZAA hP hd ?_ | refine ZAB hP hd ?_ | refine ZAA hP hnw ?_ | refine ZAB hP hnw ?_); (conv => whnf); refine zA ?_; conv => whnf) | ((first | refine ZAA hP htr2 ?_ | refine ZAB hP htr2 ?_); (conv => whnf); refine zA ?_; conv => whnf) | (refine arW ?_; conv => whnf)))
    refine ZAn (α := Nat) (ds := []) (N := 13) (fun j => [(63, sInt .i64 (j : Int))]) [] (fun j => [])
     (fun j => j <= Y.i - (MS.run m nw ek et ew (ms0 S s) i).2.i) (fun j => Y.i - (MS.run m nw ek et ew (ms0 S s) i).2.i - j) 0 (Nat.zero_le _) ?_ fun j hj => ?_
    ·conv => whnf
     refine ZAW hA [0, 1, 2, 3, 4, 5, 6, 7, 8, 9, 10, 11, 12] rfl rfl rfl ZAe ?_ rfl
     exact ZAD
    conv => whnf
    refine dsplit (fun hq2 => ?_) (fun hq2 => ?_)
    ·have hq3 : (j : Int) < ((Y.i - (MS.run m nw ek et ew (ms0 S s) i).2.i : Nat) : Int) := hq2
     obtain ⟨kk, tt, ll, hrow⟩ := hA3.new (j + (MS.run m nw ek et ew (ms0 S s) i).2.i) (by omega) (by omega)
     have hrow' : Y.rows (nadd (MS.run m nw ek et ew (ms0 S s) i).2.i ((j : Int)).toNat) = rowT kk tt Y.now ll := by rw [ZAI]; exact hrow
     conv => whnf
     (repeat (first | (rw [hrow']) | ((first | refine aI ?_ | refine a64 ?_ | refine a32 ?_ | refine dY ?_ | refine dN ?_ | refine ZAE ?_ | refine dI hP ?_); conv => whnf) | (refine And.intro (by (conv => whnf); first | exact ⟨rfl, rfl, rfl⟩ | (refine And.intro (by (first | omega | assumption | (simp only [ZAI]; omega) | (simp [ZAI]; omega))) ?_; (conv => whnf); first | exact ⟨rfl, rfl, rfl⟩ | (refine ⟨?_, ?_, ?_⟩ <;> first | rfl | (rw [ZAF]; first | done | rfl) | (rw [hrow']; first | done | rfl))) | (refine ⟨?_, ?_, ?_⟩ <;> first | rfl | (rw [ZAF]; first | done | rfl) | (rw [hrow']; first | done | rfl))) ?_; conv => whnf) | rw [natI] | rw [ZAF] | (refine arW ?_; conv => whnf)))
     refine ⟨j + 1, by omega, by omega, ?_⟩
     conv => whnf
     refine ZAW hA [0, 1, 2, 3, 4, 5, 6, 7, 8, 9, 10, 11, 12] rfl rfl rfl ZAe ?_ rfl
     exact ZAD
    ·conv => whnf
     (repeat (first | (refine mS ?_; conv => whnf) | rw [natI] | rw [ZAF] | (refine arW ?_; conv => whnf)))
     refine ⟨i + 1, by omega, by omega, ?_⟩
     simp only [e, <- hY]
     (conv => whnf); (refine ZAU hA ?_; conv => whnf); exact zI
   ·have hY : Y.now = (MS.run m nw ek et ew (ms0 S s) i).2.now := by have := hA3.now; rw [if_neg hk, Int.add_zero] at this; exact this
    conv => whnf
    (repeat (first | (refine mS ?_; conv => whnf) | rw [natI] | rw [ZAF] | ((first | refine ZAA hP htr ?_ | refine ZAB hP htr ?_ | refine ZAA hP hd ?_ | refine ZAB hP hd ?_ | refine ZAA hP hnw ?_ | refine ZAB hP hnw ?_); (conv => whnf); refine zA ?_; conv => whnf) | ((first | refine ZAA hP htr2 ?_ | refine ZAB hP htr2 ?_); (conv => whnf); refine zA ?_; conv => whnf) | (refine arW ?_; conv => whnf)))
    refine ZAn (α := Nat) (ds := []) (N := 13) (fun j => [(63, sInt .i64 (j : Int))]) [] (fun j => [])
     (fun j => j <= Y.i - (MS.run m nw ek et ew (ms0 S s) i).2.i) (fun j => Y.i - (MS.run m nw ek et ew (ms0 S s) i).2.i - j) 0 (Nat.zero_le _) ?_ fun j hj => ?_
    ·conv => whnf
     refine ZAW hA [0, 1, 2, 3, 4, 5, 6, 7, 8, 9, 10, 11, 12] rfl rfl rfl ZAe ?_ rfl
     exact ZAD
    conv => whnf
    refine dsplit (fun hq2 => ?_) (fun hq2 => ?_)
    ·have hq3 : (j : Int) < ((Y.i - (MS.run m nw ek et ew (ms0 S s) i).2.i : Nat) : Int) := hq2
     obtain ⟨kk, tt, ll, hrow⟩ := hA3.new (j + (MS.run m nw ek et ew (ms0 S s) i).2.i) (by omega) (by omega)
     have hrow' : Y.rows (nadd (MS.run m nw ek et ew (ms0 S s) i).2.i ((j : Int)).toNat) = rowT kk tt Y.now ll := by rw [ZAI]; exact hrow
     conv => whnf
     (repeat (first | (rw [hrow']) | ((first | refine aI ?_ | refine a64 ?_ | refine a32 ?_ | refine dY ?_ | refine dN ?_ | refine ZAE ?_ | refine dI hP ?_); conv => whnf) | (refine And.intro (by (conv => whnf); first | exact ⟨rfl, rfl, rfl⟩ | (refine And.intro (by (first | omega | assumption | (simp only [ZAI]; omega) | (simp [ZAI]; omega))) ?_; (conv => whnf); first | exact ⟨rfl, rfl, rfl⟩ | (refine ⟨?_, ?_, ?_⟩ <;> first | rfl | (rw [ZAF]; first | done | rfl) | (rw [hrow']; first | done | rfl))) | (refine ⟨?_, ?_, ?_⟩ <;> first | rfl | (rw [ZAF]; first | done | rfl) | (rw [hrow']; first | done | rfl))) ?_; conv => whnf) | rw [natI] | rw [ZAF] | (refine arW ?_; conv => whnf)))
     refine ⟨j + 1, by omega, by omega, ?_⟩
     conv => whnf
     refine ZAW hA [0, 1, 2, 3, 4, 5, 6, 7, 8, 9, 10, 11, 12] rfl rfl rfl ZAe ?_ rfl
     exact ZAD
    ·conv => whnf
     (repeat (first | (refine mS ?_; conv => whnf) | rw [natI] | rw [ZAF] | (refine arW ?_; conv => whnf)))
     refine ⟨i + 1, by omega, by omega, ?_⟩
     simp only [e, <- hY]
     (conv => whnf); (refine ZAU hA ?_; conv => whnf); exact zI
  ·have hq' : ¬ (i : Int) < (l : Int) := hq
   conv => whnf
   (repeat (first | (refine mS ?_; conv => whnf) | rw [natI] | rw [ZAF] | ((first | refine ZAA hP haw ?_ | refine ZAB hP haw ?_); (conv => whnf); refine zA ?_; conv => whnf) | (refine arW ?_; conv => whnf)))
   (refine ZAC ?_; conv => whnf); exact zF
end Go.Proofs.YtlkfolopbehikaaGreat
