/- Locks in general: the lock of Mellor-Crummey and Scott, any step. · Locks in general: the queue lock of queues, any step. · Locks in general: a pool's rows, read. · Locks in general: the queue lock that can be given up, any step (printed by gi.py). · Locks in general: what seats do with a call, whatever it is. · BuildNews: what the walk calls (methods promoted through an embedded pointer). · Locks in general: locks of the six simple kinds, told alike; their methods through an interface (printed by gk.py). · Locks: what a lock of locks is made of. · Locks: locks of locks, made. -/
import Derived.Test.YtlkfolopbehikaaGreatMa
import Derived.Test.YtlkfolopbehikaaGreatSxPU
import Derived.Test.YtlkfolopbehikaaGreatSxPS
set_option linter.unusedSimpArgs false
set_option linter.unusedVariables false
set_option maxRecDepth 8000
set_option maxHeartbeats 8000000
namespace Go.Proofs.YtlkfolopbehikaaGreat
open Go Go.Sx
structure ML where
 ss : SS
 sp : Nat -> Int
 ot : Nat -> Int
def mcsG (n nt nw : Nat) (tail : Int) (hs : Nat -> Int) (L : ML) (s : PS) : Heap := (1, some (ZBO nt nw hs s)) :: ZDZ n tail L.ss.st L.ss.dl L.sp L.ot
def mcA (tail u : Int) : Int := i64w (i64w (tail + i64w (2 * i64w u)) - 1)
def mcS (n : Nat) (tail : Int) : Heap := [(0, some (.st [.p 2 0 0 0, .p 1 0 0 0, .v (.int .i64 tail), .s 3 2 0 n 0]))]
theorem ZCw (n : Nat) (tail u : Int) :
  ZAH Tryz.prog 247 (mcS n tail) 4 [.l (.p 0 0 0 0), .l (.v (.int .u32 u))] fun x h m => x = sInt .i64 (mcA tail u) /\ m = 4 /\ h = mcS n tail := by
 refine sE Tryz.func247 ic247_eq [.t 4] fun G hP hA => ?_
 unfold evF ic247
 conv => whnf
 (repeat (first | (refine mS ?_; conv => whnf) | rw [natI] | rw [ZAF] | (refine arW ?_; conv => whnf)))
 (refine ZAC ?_; conv => whnf); exact zF
def nm (t : Nat) : Int := (t : Int) + 1
def mcN (x : Int) : Int := min (i64w (x + 1)) 4
def mcLk (nw : Nat) (tail : Int) (t ta : Nat) (L : ML) (s : PS) : Dd × ML × PS :=
 pick (decide (L.sp t = 0)) (evD 0, ⟨L.ss, updF L.sp t 1, L.ot⟩, wtS nw ta (mcA tail (nm t)) 0 s)
  (pick (decide (L.sp t = 1)) (⟨pick (decide (rdV nw tail s = 0)) 1 0, true, false, false⟩, ⟨L.ss, updF L.sp t 2, updF L.ot t (rdV nw tail s)⟩, wtS nw ta tail (nm t) s)
   (pick (decide (L.sp t = 2)) (evD 0, ⟨L.ss, updF L.sp t 3, L.ot⟩, wtS nw ta (i64w (mcA tail (nm t) + 1)) 1 s)
    (pick (decide (L.sp t = 3)) (evD 0, ⟨L.ss, updF L.sp t 4, L.ot⟩, wtS nw ta (mcA tail (L.ot t)) (nm t) s)
     (pick (decide (L.sp t = 4)) (evD (pick (decide (rdV nw (i64w (mcA tail (nm t) + 1)) s = 0)) 1 0), ⟨L.ss, updF L.sp t 4, L.ot⟩, rdS nw ta (i64w (mcA tail (nm t) + 1)) s)
      (evD 0, ⟨L.ss, updF L.sp t (mcN (L.sp t)), L.ot⟩, s)))))
def mcUl (nw : Nat) (tail : Int) (t ta : Nat) (L : ML) (s : PS) : Int × ML × PS :=
 pick (decide (L.sp t = 0) || decide (L.sp t = 2)) (0, ⟨L.ss, pick (decide (rdV nw (mcA tail (nm t)) s = 0)) (pick (decide (L.sp t = 0)) (updF L.sp t 1) L.sp) (updF L.sp t 3), updF L.ot t (rdV nw (mcA tail (nm t)) s)⟩, rdS nw ta (mcA tail (nm t)) s)
  (pick (decide (L.sp t = 1)) (pick (casB nw tail (nm t) s) 3 0, ⟨L.ss, pick (casB nw tail (nm t) s) L.sp (updF L.sp t 2), L.ot⟩, casS nw ta tail (nm t) 0 s)
   (3, L, wtS nw ta (i64w (mcA tail (L.ot t) + 1)) 0 s))
def ZMx (nw : Nat) (tail : Int) (t ta : Nat) (L : ML) (s : PS) : Dd × ML × PS :=
 pick (decide (L.ss.st t = 1)) (mcLk nw tail t ta L s) (pick (decide (L.ss.st t = 3)) (evD (mcUl nw tail t ta L s).1, (mcUl nw tail t ta L s).2)
  (pick (decide (L.ss.st t = 4)) (evD (pick (decide (rdV nw (mcA tail (nm t)) s = 0)) 4 5), L, rdS nw ta (mcA tail (nm t)) s) (evD 0, L, s)))
def ZMy (t : Nat) (r : Dd × ML × PS) : Dd × ML × PS :=
 (r.1, ⟨enSS r.2.1.ss t r.1.e, pick (enB r.2.1.ss.st t r.1.e) (updF r.2.1.sp t 0) r.2.1.sp, pick (enB r.2.1.ss.st t r.1.e) (updF r.2.1.ot t 0) r.2.1.ot⟩, r.2.2)
def ZCx (n nw : Nat) (tail : Int) (t : Int) (ta : Nat) (L : ML) (s : PS) : Dd × ML × PS :=
 match inW n t with | true => ZMy t.toNat (ZMx nw tail t.toNat ta L s) | false => (evD 0, L, s)
theorem ZEb (f g : Nat -> Int) (i : Nat) (v : Int) (j : Nat) : mrgL (j = i) (ZAL (mcsE f g j) 0 [.int .i64 v]) (mcsE f g j) = mcsE (updF f i v) g j := by
 simp only [mcsE, updF, ZAL, setL, mrgL, ZBJ]
 by_cases h : j = i <;> simp [h]
theorem ZIm (f g : Nat -> Int) (i : Nat) (v : Int) (j : Nat) : mrgL (j = i) (ZAL (mcsE f g j) 1 [.int .u32 v]) (mcsE f g j) = mcsE f (updF g i v) j := by
 simp only [mcsE, updF, ZAL, setL, mrgL, ZBJ]
 by_cases h : j = i <;> simp [h]
theorem ZOb (f g : Nat -> Int) (i : Nat) (u v : Int) (j : Nat) : mrgL (j = i) (ZAL (mcsE f g j) 0 [.int .i64 u, .int .u32 v]) (mcsE f g j) = mcsE (updF f i u) (updF g i v) j := by
 simp only [mcsE, updF, ZAL, setL, mrgL, ZBJ]
 by_cases h : j = i <;> simp [h]
theorem ZMz (n nt nw t ta : Nat) (tail : Int) (hs : Nat -> Int) (L : ML) (s : PS) (ht : t < n) (hta : ta < nt) (hnt : nt <= 64) (hn : n <= 64) (hnw : nw <= 4096) :
  ZAH Tryz.prog 245 (mcsG n nt nw tail hs L s) 4 [.l (.p 0 0 0 0), .l (.p 3 2 t 0), .l (.v (.int .u32 (nm t))), .l (.v (.int .i64 ta))] fun x h k =>
   x = didO (mcLk nw tail t ta L s).1 /\ k = 4 /\ h = mcsG n nt nw tail hs (mcLk nw tail t ta L s).2.1 (mcLk nw tail t ta L s).2.2 := by
 refine sE Tryz.func245 ic245_eq [.ca 8 4] fun G hP hA => ?_
 unfold evF ic245 mcLk
 have hf := ZCw n tail (nm t)
 have hg := ZCw n tail (L.ot t)
 by_cases e0 : L.sp t = 0
 ·simp only [e0, decide_true, pick]
  have h1 := stS nt nw hs s ta (mcA tail (nm t)) 0 hta hnt hnw
  conv => whnf
  (repeat (first | (refine mS ?_; conv => whnf) | rw [natI] | rw [ZAF] | ((first | refine ZAA hP hf ?_ | refine ZAB hP hf ?_ | refine ZAA hP h1 ?_ | refine ZAB hP h1 ?_); (conv => whnf); refine zA ?_; conv => whnf) | (refine arW ?_; conv => whnf)))
  (refine ZAC ?_; conv => whnf); refine ⟨rfl, rfl, rfl, ?_, ?_, rfl⟩
  ·rfl
  ·exact ⟨ZAD, rfl, ZAD, ⟨rfl, rfl, fun j hj => by simp only [Nat.zero_add, ZEb, e0]; rfl⟩, trivial⟩
 by_cases e1 : L.sp t = 1
 ·have h2 := swS nt nw hs s ta tail (nm t) hta hnt hnw
  by_cases ez : rdV nw tail s = 0
  ·simp only [Int.reduceEq, e0, e1, ez, decide_true, decide_false, pick]
   conv => whnf
   (repeat (first | (refine mS ?_; conv => whnf) | rw [natI] | rw [ZAF] | ((first | refine ZAA hP h2 ?_ | refine ZAB hP h2 ?_); (conv => whnf); refine zA ?_; conv => whnf) | (refine arW ?_; conv => whnf)))
   (refine ZAC ?_; conv => whnf); refine ⟨rfl, rfl, rfl, ?_, ?_, rfl⟩
   ·rfl
   ·exact ⟨ZAD, rfl, ZAD, ⟨rfl, rfl, fun j hj => by first | (simp only [Nat.zero_add, ZEb, ZIm, e1, ez]; rfl) | (simp only [Nat.zero_add, ZEb, ZIm, e1]; rfl)⟩, trivial⟩
  ·simp only [Int.reduceEq, e0, e1, ez, decide_true, decide_false, pick]
   conv => whnf
   (repeat (first | (refine mS ?_; conv => whnf) | rw [natI] | rw [ZAF] | ((first | refine ZAA hP h2 ?_ | refine ZAB hP h2 ?_); (conv => whnf); refine zA ?_; conv => whnf) | (refine arW ?_; conv => whnf)))
   (refine ZAC ?_; conv => whnf); refine ⟨rfl, rfl, rfl, ?_, ?_, rfl⟩
   ·rfl
   ·exact ⟨ZAD, rfl, ZAD, ⟨rfl, rfl, fun j hj => by first | (simp only [Nat.zero_add, ZEb, ZIm, e1, ez]; rfl) | (simp only [Nat.zero_add, ZEb, ZIm, e1]; rfl)⟩, trivial⟩
 by_cases e2 : L.sp t = 2
 ·have h1 := stS nt nw hs s ta (i64w (mcA tail (nm t) + 1)) 1 hta hnt hnw
  simp only [Int.reduceEq, e0, e1, e2, decide_true, decide_false, pick]
  conv => whnf
  (repeat (first | (refine mS ?_; conv => whnf) | rw [natI] | rw [ZAF] | ((first | refine ZAA hP hf ?_ | refine ZAB hP hf ?_ | refine ZAA hP h1 ?_ | refine ZAB hP h1 ?_); (conv => whnf); refine zA ?_; conv => whnf) | (refine arW ?_; conv => whnf)))
  (refine ZAC ?_; conv => whnf); refine ⟨rfl, rfl, rfl, ?_, ?_, rfl⟩
  ·rfl
  ·exact ⟨ZAD, rfl, ZAD, ⟨rfl, rfl, fun j hj => by simp only [Nat.zero_add, ZEb, e2]; rfl⟩, trivial⟩
 by_cases e3 : L.sp t = 3
 ·have h1 := stS nt nw hs s ta (mcA tail (L.ot t)) (nm t) hta hnt hnw
  simp only [Int.reduceEq, e0, e1, e2, e3, decide_true, decide_false, pick]
  conv => whnf
  (repeat (first | (refine mS ?_; conv => whnf) | rw [natI] | rw [ZAF] | ((first | refine ZAA hP hg ?_ | refine ZAB hP hg ?_ | refine ZAA hP h1 ?_ | refine ZAB hP h1 ?_); (conv => whnf); refine zA ?_; conv => whnf) | (refine arW ?_; conv => whnf)))
  (refine ZAC ?_; conv => whnf); refine ⟨rfl, rfl, rfl, ?_, ?_, rfl⟩
  ·rfl
  ·exact ⟨ZAD, rfl, ZAD, ⟨rfl, rfl, fun j hj => by simp only [Nat.zero_add, ZEb, e3]; rfl⟩, trivial⟩
 by_cases e4 : L.sp t = 4
 ·have h1 := ldS nt nw hs s ta (i64w (mcA tail (nm t) + 1)) hta hnt hnw
  by_cases ez : rdV nw (i64w (mcA tail (nm t) + 1)) s = 0
  ·simp only [Int.reduceEq, e0, e1, e2, e3, e4, ez, decide_true, decide_false, pick]
   conv => whnf
   (repeat (first | (refine mS ?_; conv => whnf) | rw [natI] | rw [ZAF] | ((first | refine ZAA hP hf ?_ | refine ZAB hP hf ?_ | refine ZAA hP h1 ?_ | refine ZAB hP h1 ?_); (conv => whnf); refine zA ?_; conv => whnf) | (refine arW ?_; conv => whnf)))
   (refine ZAC ?_; conv => whnf); refine ⟨rfl, rfl, rfl, ?_, ?_, rfl⟩
   ·rfl
   ·exact ⟨ZAD, rfl, ZAD, ⟨rfl, rfl, fun j hj => by simp only [Nat.zero_add, ZEb, e4]; rfl⟩, trivial⟩
  ·simp only [Int.reduceEq, e0, e1, e2, e3, e4, ez, decide_true, decide_false, pick]
   conv => whnf
   (repeat (first | (refine mS ?_; conv => whnf) | rw [natI] | rw [ZAF] | ((first | refine ZAA hP hf ?_ | refine ZAB hP hf ?_ | refine ZAA hP h1 ?_ | refine ZAB hP h1 ?_); (conv => whnf); refine zA ?_; conv => whnf) | (refine arW ?_; conv => whnf)))
   (refine ZAC ?_; conv => whnf); refine ⟨rfl, rfl, rfl, ?_, ?_, rfl⟩
   ·rfl
   ·exact ⟨ZAD, rfl, ZAD, ⟨rfl, rfl, fun j hj => by simp only [Nat.zero_add, ZEb, e4]; rfl⟩, trivial⟩
 ·simp only [e0, e1, e2, e3, e4, decide_false, pick]
  conv => whnf
  (repeat (first | (refine mS ?_; conv => whnf) | rw [natI] | rw [ZAF] | (refine arW ?_; conv => whnf)))
  (refine ZAC ?_; conv => whnf); refine ⟨rfl, rfl, rfl, ?_, ?_, rfl⟩
  ·rfl
  ·exact ⟨ZAD, rfl, ZAD, ⟨rfl, rfl, fun j hj => by simp only [Nat.zero_add, ZEb]; rfl⟩, trivial⟩
theorem ZM0 (n nt nw t ta : Nat) (tail : Int) (hs : Nat -> Int) (L : ML) (s : PS) (ht : t < n) (hta : ta < nt) (hnt : nt <= 64) (hn : n <= 64) (hnw : nw <= 4096) :
  ZAH Tryz.prog 246 (mcsG n nt nw tail hs L s) 4 [.l (.p 0 0 0 0), .l (.p 3 2 t 0), .l (.v (.int .u32 (nm t))), .l (.v (.int .i64 ta))] fun x h k =>
   x = sInt .i64 (mcUl nw tail t ta L s).1 /\ k = 4 /\ h = mcsG n nt nw tail hs (mcUl nw tail t ta L s).2.1 (mcUl nw tail t ta L s).2.2 := by
 refine sE Tryz.func246 ic246_eq [.t 8] fun G hP hA => ?_
 unfold evF ic246 mcUl
 have hf := ZCw n tail (nm t)
 have hg := ZCw n tail (L.ot t)
 have hl := ldS nt nw hs s ta (mcA tail (nm t)) hta hnt hnw
 by_cases e0 : L.sp t = 0
 ·by_cases ez : rdV nw (mcA tail (nm t)) s = 0
  ·simp only [e0, ez, decide_true, pick, Bool.true_or]
   conv => whnf
   (repeat (first | (refine mS ?_; conv => whnf) | rw [natI] | rw [ZAF] | ((first | refine ZAA hP hf ?_ | refine ZAB hP hf ?_ | refine ZAA hP hl ?_ | refine ZAB hP hl ?_); (conv => whnf); refine zA ?_; conv => whnf) | (refine arW ?_; conv => whnf)))
   (refine ZAC ?_; conv => whnf); refine ⟨rfl, rfl, rfl, ?_, ?_, rfl⟩
   ·rfl
   ·exact ⟨ZAD, rfl, ZAD, ⟨rfl, rfl, fun j hj => by simp only [Nat.zero_add, ZEb, ZIm, ez]⟩, trivial⟩
  ·simp only [e0, ez, decide_true, decide_false, pick, Bool.true_or]
   conv => whnf
   (repeat (first | (refine mS ?_; conv => whnf) | rw [natI] | rw [ZAF] | ((first | refine ZAA hP hf ?_ | refine ZAB hP hf ?_ | refine ZAA hP hl ?_ | refine ZAB hP hl ?_); (conv => whnf); refine zA ?_; conv => whnf) | (refine arW ?_; conv => whnf)))
   (refine ZAC ?_; conv => whnf); refine ⟨rfl, rfl, rfl, ?_, ?_, rfl⟩
   ·rfl
   ·exact ⟨ZAD, rfl, ZAD, ⟨rfl, rfl, fun j hj => by simp only [Nat.zero_add, ZEb, ZIm]⟩, trivial⟩
 by_cases e2 : L.sp t = 2
 ·by_cases ez : rdV nw (mcA tail (nm t)) s = 0
  ·simp only [Int.reduceEq, e2, ez, decide_true, decide_false, pick, Bool.or_true]
   conv => whnf
   (repeat (first | (refine mS ?_; conv => whnf) | rw [natI] | rw [ZAF] | ((first | refine ZAA hP hf ?_ | refine ZAB hP hf ?_ | refine ZAA hP hl ?_ | refine ZAB hP hl ?_); (conv => whnf); refine zA ?_; conv => whnf) | (refine arW ?_; conv => whnf)))
   (refine ZAC ?_; conv => whnf); refine ⟨rfl, rfl, rfl, ?_, ?_, rfl⟩
   ·rfl
   ·exact ⟨ZAD, rfl, ZAD, ⟨rfl, rfl, fun j hj => by simp only [Nat.zero_add, ZEb, ZIm, ez]⟩, trivial⟩
  ·simp only [Int.reduceEq, e2, ez, decide_true, decide_false, pick, Bool.or_true]
   conv => whnf
   (repeat (first | (refine mS ?_; conv => whnf) | rw [natI] | rw [ZAF] | ((first | refine ZAA hP hf ?_ | refine ZAB hP hf ?_ | refine ZAA hP hl ?_ | refine ZAB hP hl ?_); (conv => whnf); refine zA ?_; conv => whnf) | (refine arW ?_; conv => whnf)))
   (refine ZAC ?_; conv => whnf); refine ⟨rfl, rfl, rfl, ?_, ?_, rfl⟩
   ·rfl
   ·exact ⟨ZAD, rfl, ZAD, ⟨rfl, rfl, fun j hj => by simp only [Nat.zero_add, ZEb, ZIm]⟩, trivial⟩
 by_cases e1 : L.sp t = 1
 ·have hc := caS nt nw hs s ta tail (nm t) 0 hta hnt hnw
  cases ec : casB nw tail (nm t) s with
  | true =>
   rw [ec] at hc
   simp only [Int.reduceEq, e0, e1, e2, decide_true, decide_false, pick, Bool.or_false]
   conv => whnf
   (repeat (first | (refine mS ?_; conv => whnf) | rw [natI] | rw [ZAF] | ((first | refine ZAA hP hc ?_ | refine ZAB hP hc ?_); (conv => whnf); refine zA ?_; conv => whnf) | (refine arW ?_; conv => whnf)))
   (refine ZAC ?_; conv => whnf); exact zF
  | false =>
   rw [ec] at hc
   simp only [Int.reduceEq, e0, e1, e2, decide_true, decide_false, pick, Bool.or_false]
   conv => whnf
   (repeat (first | (refine mS ?_; conv => whnf) | rw [natI] | rw [ZAF] | ((first | refine ZAA hP hc ?_ | refine ZAB hP hc ?_); (conv => whnf); refine zA ?_; conv => whnf) | (refine arW ?_; conv => whnf)))
   (refine ZAC ?_; conv => whnf); refine ⟨rfl, rfl, rfl, ?_, ?_, rfl⟩
   ·rfl
   ·exact ⟨ZAD, rfl, ZAD, ⟨rfl, rfl, fun j hj => by simp only [Nat.zero_add, ZEb]⟩, trivial⟩
 ·have h1 := stS nt nw hs s ta (i64w (mcA tail (L.ot t) + 1)) 0 hta hnt hnw
  simp only [e0, e1, e2, decide_false, pick, Bool.or_false]
  conv => whnf
  (repeat (first | (refine mS ?_; conv => whnf) | rw [natI] | rw [ZAF] | ((first | refine ZAA hP hg ?_ | refine ZAB hP hg ?_ | refine ZAA hP h1 ?_ | refine ZAB hP h1 ?_); (conv => whnf); refine zA ?_; conv => whnf) | (refine arW ?_; conv => whnf)))
  (refine ZAC ?_; conv => whnf); exact zF
theorem ZM1 (n nt nw t ta : Nat) (tail now : Int) (hs : Nat -> Int) (L : ML) (s : PS) (ht : t < n) (hta : ta < nt) (hnt : nt <= 64) (hn : n <= 64) (hnw : nw <= 4096) :
  ZAH Tryz.prog 243 (mcsG n nt nw tail hs L s) 4 [.l (.p 0 0 0 0), .l (.v (.int .i64 t)), .l (.v (.int .i64 ta)), .l (.v (.int .i64 now))] fun x h k =>
   x = didO (ZMy t (ZMx nw tail t ta L s)).1 /\ k = 4 /\ h = mcsG n nt nw tail hs (ZMy t (ZMx nw tail t ta L s)).2.1 (ZMy t (ZMx nw tail t ta L s)).2.2 := by
 have hst := ZBC n L.ss.st L.ss.dl false true t ht hn
 have hlk := ZMz n nt nw t ta tail hs L s ht hta hnt hn hnw
 have hul := ZM0 n nt nw t ta tail hs L s ht hta hnt hn hnw
 have hf := ZCw n tail (nm t)
 have hl := ldS nt nw hs s ta (mcA tail (nm t)) hta hnt hnw
 refine sE Tryz.func243 ic243_eq [.ca 8 4] fun G hP hA => ?_
 unfold evF ic243 ZMx ZMy
 by_cases e1 : L.ss.st t = 1
 ·rw [e1] at hst
  simp only [e1, decide_true, pick]
  generalize mcLk nw tail t ta L s = r at hlk ⊢
  have hen := ZAa n r.2.1.ss.st r.2.1.ss.dl false true t r.1.e ht hn
  cases eb : enB r.2.1.ss.st t r.1.e with
  | true =>
   rw [eb] at hen
   simp only [pick]
   conv => whnf
   (repeat (first | (refine mS ?_; conv => whnf) | rw [natI] | rw [ZAF] | ((first | refine ZAA hP hst ?_ | refine ZAB hP hst ?_ | refine ZAA hP hlk ?_ | refine ZAB hP hlk ?_ | refine ZAA hP hen ?_ | refine ZAB hP hen ?_); (conv => whnf); refine zA ?_; conv => whnf) | (refine arW ?_; conv => whnf)))
   (refine ZAC ?_; conv => whnf); refine ⟨rfl, rfl, rfl, ?_, ?_, rfl⟩
   ·rfl
   ·exact ⟨ZAD, rfl, ZAD, ⟨rfl, rfl, fun j hj => by simp only [Nat.zero_add, ZOb]⟩, trivial⟩
  | false =>
   rw [eb] at hen
   simp only [pick]
   conv => whnf
   (repeat (first | (refine mS ?_; conv => whnf) | rw [natI] | rw [ZAF] | ((first | refine ZAA hP hst ?_ | refine ZAB hP hst ?_ | refine ZAA hP hlk ?_ | refine ZAB hP hlk ?_ | refine ZAA hP hen ?_ | refine ZAB hP hen ?_); (conv => whnf); refine zA ?_; conv => whnf) | (refine arW ?_; conv => whnf)))
   (refine ZAC ?_; conv => whnf); exact zF
 by_cases e3 : L.ss.st t = 3
 ·rw [e3] at hst
  simp only [Int.reduceEq, e3, decide_true, decide_false, pick]
  generalize mcUl nw tail t ta L s = r at hul ⊢
  have hen := ZAa n r.2.1.ss.st r.2.1.ss.dl false true t r.1 ht hn
  cases eb : enB r.2.1.ss.st t r.1 with
  | true =>
   rw [eb] at hen
   simp only [pick, evD, eb]
   conv => whnf
   (repeat (first | (refine mS ?_; conv => whnf) | rw [natI] | rw [ZAF] | ((first | refine ZAA hP hst ?_ | refine ZAB hP hst ?_ | refine ZAA hP hul ?_ | refine ZAB hP hul ?_ | refine ZAA hP hen ?_ | refine ZAB hP hen ?_); (conv => whnf); refine zA ?_; conv => whnf) | (refine arW ?_; conv => whnf)))
   (refine ZAC ?_; conv => whnf); refine ⟨rfl, rfl, rfl, ?_, ?_, rfl⟩
   ·rfl
   ·exact ⟨ZAD, rfl, ZAD, ⟨rfl, rfl, fun j hj => by simp only [Nat.zero_add, ZOb]⟩, trivial⟩
  | false =>
   rw [eb] at hen
   simp only [pick, evD, eb]
   conv => whnf
   (repeat (first | (refine mS ?_; conv => whnf) | rw [natI] | rw [ZAF] | ((first | refine ZAA hP hst ?_ | refine ZAB hP hst ?_ | refine ZAA hP hul ?_ | refine ZAB hP hul ?_ | refine ZAA hP hen ?_ | refine ZAB hP hen ?_); (conv => whnf); refine zA ?_; conv => whnf) | (refine arW ?_; conv => whnf)))
   (refine ZAC ?_; conv => whnf); exact zF
 by_cases e4 : L.ss.st t = 4
 ·rw [e4] at hst
  by_cases ez : rdV nw (mcA tail (nm t)) s = 0
  ·have hen := ZAa n L.ss.st L.ss.dl false true t 4 ht hn
   have eb : enB L.ss.st t 4 = true := by simp [enB, e4, ZDv, pick]
   rw [eb] at hen
   simp only [Int.reduceEq, e4, ez, eb, decide_true, decide_false, pick, evD]
   conv => whnf
   (repeat (first | (refine mS ?_; conv => whnf) | rw [natI] | rw [ZAF] | ((first | refine ZAA hP hst ?_ | refine ZAB hP hst ?_ | refine ZAA hP hf ?_ | refine ZAB hP hf ?_ | refine ZAA hP hl ?_ | refine ZAB hP hl ?_ | refine ZAA hP hen ?_ | refine ZAB hP hen ?_); (conv => whnf); refine zA ?_; conv => whnf) | (refine arW ?_; conv => whnf)))
   (refine ZAC ?_; conv => whnf); refine ⟨rfl, rfl, rfl, ?_, ?_, rfl⟩
   ·rfl
   ·exact ⟨ZAD, rfl, ZAD, ⟨rfl, rfl, fun j hj => by simp only [Nat.zero_add, ZOb]⟩, trivial⟩
  ·have hen := ZAa n L.ss.st L.ss.dl false true t 5 ht hn
   have eb : enB L.ss.st t 5 = true := by simp [enB, e4, ZDv, pick]
   rw [eb] at hen
   simp only [Int.reduceEq, e4, ez, eb, decide_true, decide_false, pick, evD]
   conv => whnf
   (repeat (first | (refine mS ?_; conv => whnf) | rw [natI] | rw [ZAF] | ((first | refine ZAA hP hst ?_ | refine ZAB hP hst ?_ | refine ZAA hP hf ?_ | refine ZAB hP hf ?_ | refine ZAA hP hl ?_ | refine ZAB hP hl ?_ | refine ZAA hP hen ?_ | refine ZAB hP hen ?_); (conv => whnf); refine zA ?_; conv => whnf) | (refine arW ?_; conv => whnf)))
   (refine ZAC ?_; conv => whnf); refine ⟨rfl, rfl, rfl, ?_, ?_, rfl⟩
   ·rfl
   ·exact ⟨ZAD, rfl, ZAD, ⟨rfl, rfl, fun j hj => by simp only [Nat.zero_add, ZOb]⟩, trivial⟩
 ·have hen := ZAa n L.ss.st L.ss.dl false true t 0 ht hn
  have eb : enB L.ss.st t 0 = false := by simp [enB, ZDv, pick, e1, e3, e4]
  rw [eb] at hen
  simp only [e1, e3, e4, eb, decide_false, pick, evD]
  conv => whnf
  (repeat (first | (refine mS ?_; conv => whnf) | rw [natI] | rw [ZAF] | ((first | refine ZAA hP hst ?_ | refine ZAB hP hst ?_ | refine ZAA hP hen ?_ | refine ZAB hP hen ?_); (conv => whnf); refine zA ?_; conv => whnf) | (refine arW ?_; conv => whnf)))
  (refine ZAC ?_; conv => whnf); exact zF
structure HL where
 ss : SS
 cl : Nat -> Int
 no : Nat -> Int
 ah : Nat -> Int
 la : Nat -> Int
 wo : Nat -> Int
 sp : Nat -> Int
def ZGy (n nt nw : Nat) (tail : Int) (hs : Nat -> Int) (L : HL) (s : PS) : Heap := (1, some (ZBO nt nw hs s)) :: ZCC n tail L.ss.st L.ss.dl L.cl L.no L.ah L.la L.wo L.sp
def hiA (tail k : Int) : Int := i64w (tail + 8 + k)
def hiS (n : Nat) (tail : Int) : Heap := [(0, some (.st [.p 2 0 0 0, .p 1 0 0 0, .v (.int .i64 tail), .s 3 6 0 n 0]))]
theorem ZEv (n : Nat) (tail u : Int) (htl : 0 <= tail /\ tail <= 4096) :
  ZAH Tryz.prog 264 (hiS n tail) 4 [.l (.p 0 0 0 0), .l (.v (.int .i64 u))] fun x h m => x = sInt .i64 (hiA tail u) /\ m = 4 /\ h = hiS n tail := by
 refine sE Tryz.func264 ic264_eq [.t 4] fun G hP hA => ?_
 unfold evF ic264
 conv => whnf
 (repeat (first | (refine mS ?_; conv => whnf) | rw [natI] | rw [ZAF] | (refine arW ?_; conv => whnf)))
 (refine ZAC ?_; conv => whnf); exact zF
def hiPk (c : Int) : Int := bitZ .or .u32 (min (max c 0) 1073741823 * 4) 2
def hiCl (w : Int) : Int := i64w (u32w (w.tdiv 4))
def hiWt (w : Int) : Bool := decide (bitZ .and .u32 w 2 ≠ 0)
def hiSp (w : Int) : Bool := decide (bitZ .and .u32 w 1 ≠ 0)
def hiFr (w : Int) : Int := bitZ .andNot .u32 w 2
def hiSl (w : Int) : Int := bitZ .or .u32 w 1
theorem ZM2 (c : Int) : ZAH Tryz.prog 140 [] 0 [.l (.v (.int .i64 c)), .l (.v (.bool true)), .l (.v (.bool false))] fun x h n => x = sInt .u32 (hiPk c) /\ n = 0 /\ h = [] := by
 refine sE Tryz.func140 ic140_eq [.t 6] fun G hP hA => ?_
 unfold evF ic140
 conv => whnf
 (repeat (first | (refine mS ?_; conv => whnf) | rw [natI] | rw [ZAF] | (refine arW ?_; conv => whnf)))
 (refine ZAC ?_; conv => whnf); exact zF
theorem ZM3 (w : Int) : ZAH Tryz.prog 265 [] 0 [.l (.v (.int .u32 w))] fun x h n => x = sInt .i64 (hiCl w) /\ n = 0 /\ h = [] := by
 refine sE Tryz.func265 ic265_eq [.t 2] fun G hP hA => ?_
 unfold evF ic265
 conv => whnf
 (repeat (first | (refine mS ?_; conv => whnf) | rw [natI] | rw [ZAF] | (refine arW ?_; conv => whnf)))
 (refine ZAC ?_; conv => whnf); exact zF
theorem ZIn (w : Int) : ZAH Tryz.prog 267 [] 0 [.l (.v (.int .u32 w))] fun x h n => x = ZAb (hiWt w) /\ n = 0 /\ h = [] := by
 refine sE Tryz.func267 ic267_eq [.t 2] fun G hP hA => ?_
 unfold evF ic267
 conv => whnf
 (repeat (first | (refine mS ?_; conv => whnf) | rw [natI] | rw [ZAF] | (refine arW ?_; conv => whnf)))
 (refine ZAC ?_; conv => whnf); exact zF
theorem ZM4 (w : Int) : ZAH Tryz.prog 266 [] 0 [.l (.v (.int .u32 w))] fun x h n => x = ZAb (hiSp w) /\ n = 0 /\ h = [] := by
 refine sE Tryz.func266 ic266_eq [.t 2] fun G hP hA => ?_
 unfold evF ic266
 conv => whnf
 (repeat (first | (refine mS ?_; conv => whnf) | rw [natI] | rw [ZAF] | (refine arW ?_; conv => whnf)))
 (refine ZAC ?_; conv => whnf); exact zF
theorem ZM5 (w : Int) : ZAH Tryz.prog 270 [] 0 [.l (.v (.int .u32 w))] fun x h n => x = sInt .u32 (hiFr w) /\ n = 0 /\ h = [] := by
 refine sE Tryz.func270 ic270_eq [.t 2] fun G hP hA => ?_
 unfold evF ic270
 conv => whnf
 (repeat (first | (refine mS ?_; conv => whnf) | rw [natI] | rw [ZAF] | (refine arW ?_; conv => whnf)))
 (refine ZAC ?_; conv => whnf); exact zF
theorem ZM6 (w : Int) : ZAH Tryz.prog 269 [] 0 [.l (.v (.int .u32 w))] fun x h n => x = sInt .u32 (hiSl w) /\ n = 0 /\ h = [] := by
 refine sE Tryz.func269 ic269_eq [.t 2] fun G hP hA => ?_
 unfold evF ic269
 conv => whnf
 (repeat (first | (refine mS ?_; conv => whnf) | rw [natI] | rw [ZAF] | (refine arW ?_; conv => whnf)))
 (refine ZAC ?_; conv => whnf); exact zF
def hiO (tail c : Int) : Int := i64w (tail + 1 + c)
def hiLk (nw : Nat) (tail : Int) (t ta : Nat) (L : HL) (s : PS) : Dd × HL × PS :=
 let own := hiO tail (L.cl t)
 let w := rdV nw (hiA tail (L.ah t)) s
 pick (decide (L.sp t = 0)) (evD 0, ⟨L.ss, L.cl, L.no, L.ah, L.la, L.wo, updF L.sp t 1⟩, wtS nw ta (hiA tail (L.no t)) (hiPk (L.cl t)) s)
 (pick (decide (L.sp t = 1)) (⟨0, true, false, false⟩, ⟨L.ss, L.cl, L.no, updF L.ah t (i64w (rdV nw own s)), L.la, L.wo, updF L.sp t (pick (decide (i64w (rdV nw own s) = 0)) 3 2)⟩, wtS nw ta own (u32w (L.no t)) s)
 (pick (decide (L.sp t = 2)) (evD (pick (!decide (hiCl w = L.cl t) || hiSp w || hiWt w) 0 1), ⟨L.ss, L.cl, L.no, L.ah, L.la, L.wo, pick (!decide (hiCl w = L.cl t) || hiSp w) (updF L.sp t 3) (pick (hiWt w) L.sp (updF L.sp t 0))⟩, rdS nw ta (hiA tail (L.ah t)) s)
 (pick (decide (L.sp t = 3)) (evD 0, ⟨L.ss, L.cl, L.no, L.ah, updF L.la t (i64w (rdV nw own s)), L.wo, updF L.sp t 4⟩, rdS nw ta own s)
 (pick (decide (L.sp t = 4)) (⟨0, false, true, false⟩, ⟨L.ss, L.cl, L.no, updF L.ah t (i64w (rdV nw tail s)), L.la, L.wo, updF L.sp t 5⟩, wtS nw ta tail (u32w (L.la t)) s)
 (pick (decide (L.sp t = 5)) (evD 0, ⟨L.ss, L.cl, L.no, L.ah, L.la, updF L.wo t (rdV nw (hiA tail (L.la t)) s), updF L.sp t 6⟩, rdS nw ta (hiA tail (L.la t)) s)
 (pick (decide (L.sp t = 6)) (evD 0, ⟨L.ss, L.cl, L.no, L.ah, L.la, L.wo, updF L.sp t (pick (casB nw (hiA tail (L.la t)) (L.wo t) s) 7 5)⟩, casS nw ta (hiA tail (L.la t)) (L.wo t) (hiSl (L.wo t)) s)
 (pick (decide (L.sp t = 7)) (pick (hiWt w) (evD 0) ⟨1, false, false, true⟩, ⟨L.ss, L.cl, L.no, L.ah, L.la, L.wo, pick (hiWt w) L.sp (updF L.sp t 0)⟩, rdS nw ta (hiA tail (L.ah t)) s)
  (evD 0, L, s))))))))
def hiUl (nw : Nat) (tail : Int) (t ta : Nat) (L : HL) (s : PS) : Int × HL × PS :=
 let a := hiA tail (L.no t)
 pick (decide (L.sp t = 0)) (0, ⟨L.ss, L.cl, L.no, L.ah, L.la, updF L.wo t (rdV nw a s), updF L.sp t 1⟩, rdS nw ta a s)
  (pick (casB nw a (L.wo t) s) 3 0, ⟨L.ss, L.cl, pick (casB nw a (L.wo t) s) (updF L.no t (L.ah t)) L.no, L.ah, L.la, L.wo, updF L.sp t 0⟩, casS nw ta a (L.wo t) (hiFr (L.wo t)) s)
def ZM7 (nw : Nat) (tail : Int) (t ta : Nat) (L : HL) (s : PS) : Dd × HL × PS :=
 pick (decide (L.ss.st t = 1)) (hiLk nw tail t ta L s) (pick (decide (L.ss.st t = 3)) (evD (hiUl nw tail t ta L s).1, (hiUl nw tail t ta L s).2) (evD 0, L, s))
def ZM8 (t : Nat) (r : Dd × HL × PS) : Dd × HL × PS := (r.1, ⟨enSS r.2.1.ss t r.1.e, r.2.1.cl, r.2.1.no, r.2.1.ah, r.2.1.la, r.2.1.wo, r.2.1.sp⟩, r.2.2)
def ZCA (n nw : Nat) (tail : Int) (t : Int) (ta : Nat) (L : HL) (s : PS) : Dd × HL × PS :=
 match inW n t with | true => ZM8 t.toNat (ZM7 nw tail t.toNat ta L s) | false => (evD 0, L, s)
theorem ZEc (cl no ah la wo sp : Nat -> Int) (i : Nat) (v : Int) (j : Nat) : mrgL (j = i) (ZAL (ZCP cl no ah la wo sp j) 1 [.int .i64 v]) (ZCP cl no ah la wo sp j) = ZCP cl (updF no i v) ah la wo sp j := by
 simp only [ZCP, updF, ZAL, setL, mrgL, ZBJ]
 by_cases h : j = i <;> simp [h]
theorem ZEd (cl no ah la wo sp : Nat -> Int) (i : Nat) (v : Int) (j : Nat) : mrgL (j = i) (ZAL (ZCP cl no ah la wo sp j) 2 [.int .i64 v]) (ZCP cl no ah la wo sp j) = ZCP cl no (updF ah i v) la wo sp j := by
 simp only [ZCP, updF, ZAL, setL, mrgL, ZBJ]
 by_cases h : j = i <;> simp [h]
theorem ZEe (cl no ah la wo sp : Nat -> Int) (i : Nat) (v : Int) (j : Nat) : mrgL (j = i) (ZAL (ZCP cl no ah la wo sp j) 3 [.int .i64 v]) (ZCP cl no ah la wo sp j) = ZCP cl no ah (updF la i v) wo sp j := by
 simp only [ZCP, updF, ZAL, setL, mrgL, ZBJ]
 by_cases h : j = i <;> simp [h]
theorem ZEf (cl no ah la wo sp : Nat -> Int) (i : Nat) (v : Int) (j : Nat) : mrgL (j = i) (ZAL (ZCP cl no ah la wo sp j) 4 [.int .u32 v]) (ZCP cl no ah la wo sp j) = ZCP cl no ah la (updF wo i v) sp j := by
 simp only [ZCP, updF, ZAL, setL, mrgL, ZBJ]
 by_cases h : j = i <;> simp [h]
theorem ZEM (cl no ah la wo sp : Nat -> Int) (i : Nat) (v : Int) (j : Nat) : mrgL (j = i) (ZAL (ZCP cl no ah la wo sp j) 5 [.int .i64 v]) (ZCP cl no ah la wo sp j) = ZCP cl no ah la wo (updF sp i v) j := by
 simp only [ZCP, updF, ZAL, setL, mrgL, ZBJ]
 by_cases h : j = i <;> simp [h]
theorem ZIo (n t : Nat) (cl no ah la wo sp : Nat -> Int) (b : Bool) (ht : t < n) (hn : n <= 64) :
  ZAH Tryz.prog 268 [(0, some (.ar 6 n (ZCP cl no ah la wo sp)))] 1 [.l (.p 0 6 t 0), .l (.v (.bool b))] fun x h k => x = didO ⟨1, false, false, b⟩ /\ k = 1 /\ h = [(0, some (.ar 6 n (ZCP cl no ah la wo (updF sp t 0))))] := by
 refine sE Tryz.func268 ic268_eq [.ca 4 4] fun G hP hA => ?_
 unfold evF ic268
 conv => whnf
 (repeat (first | (refine mS ?_; conv => whnf) | rw [natI] | rw [ZAF] | (refine arW ?_; conv => whnf)))
 (refine ZAC ?_; conv => whnf); refine ⟨rfl, rfl, rfl, ?_, ?_, rfl⟩
 ·rfl
 ·exact ⟨⟨rfl, rfl, fun j hj => by simp only [Nat.zero_add, ZEM]⟩, trivial⟩
theorem ZM9 (n nt nw t ta : Nat) (tail : Int) (hs : Nat -> Int) (L : HL) (s : PS) (ht : t < n) (hta : ta < nt) (hnt : nt <= 64) (hn : n <= 64) (hnw : nw <= 4096) (htl : 0 <= tail /\ tail <= 4096) :
  ZAH Tryz.prog 262 (ZGy n nt nw tail hs L s) 4 [.l (.p 0 0 0 0), .l (.p 3 6 t 0), .l (.v (.int .i64 ta))] fun x h k =>
   x = didO (hiLk nw tail t ta L s).1 /\ k = 4 /\ h = ZGy n nt nw tail hs (hiLk nw tail t ta L s).2.1 (hiLk nw tail t ta L s).2.2 := by
 refine sE Tryz.func262 ic262_eq [.ca 6 4] fun G hP hA => ?_
 unfold evF ic262 hiLk
 have fno := ZEv n tail (L.no t) htl
 have fah := ZEv n tail (L.ah t) htl
 have fla := ZEv n tail (L.la t) htl
 have hpk := ZM2 (L.cl t)
 by_cases e0 : L.sp t = 0
 ·have h1 := stS nt nw hs s ta (hiA tail (L.no t)) (hiPk (L.cl t)) hta hnt hnw
  simp only [e0, decide_true, decide_false, pick, Bool.not_true, Bool.not_false, Bool.true_or, Bool.or_true, Bool.false_or, Bool.or_false]
  conv => whnf
  (repeat (first | (refine mS ?_; conv => whnf) | rw [natI] | rw [ZAF] | ((first | refine ZAA hP fno ?_ | refine ZAB hP fno ?_ | refine ZAA hP hpk ?_ | refine ZAB hP hpk ?_ | refine ZAA hP h1 ?_ | refine ZAB hP h1 ?_); (conv => whnf); refine zA ?_; conv => whnf) | (refine arW ?_; conv => whnf)))
  (refine ZAC ?_; conv => whnf); refine ⟨rfl, rfl, rfl, ?_, ?_, rfl⟩
  ·rfl
  ·exact ⟨ZAD, rfl, ZAD, ⟨rfl, rfl, fun j hj => by simp only [Nat.zero_add, ZEc, ZEd, ZEe, ZEf, ZEM, ZA8] <;> rfl⟩, trivial⟩
 by_cases e1 : L.sp t = 1
 ·have h1 := swS nt nw hs s ta (hiO tail (L.cl t)) (u32w (L.no t)) hta hnt hnw
  by_cases ez : i64w (rdV nw (hiO tail (L.cl t)) s) = 0
  ·have ez' : IntKind.i64.wrap (rdV nw (hiO tail (L.cl t)) s) = 0 := ez
   simp only [Int.reduceEq, e0, e1, ez, decide_true, decide_false, pick, Bool.not_true, Bool.not_false, Bool.true_or, Bool.or_true, Bool.false_or, Bool.or_false]
   conv => whnf
   (repeat (first | (refine mS ?_; conv => whnf) | rw [natI] | rw [ZAF] | ((first | refine ZAA hP h1 ?_ | refine ZAB hP h1 ?_); (conv => whnf); refine zA ?_; conv => whnf) | (refine arW ?_; conv => whnf)))
   (refine ZAC ?_; conv => whnf); refine ⟨rfl, rfl, rfl, ?_, ?_, rfl⟩
   ·rfl
   ·exact ⟨ZAD, rfl, ZAD, ⟨rfl, rfl, fun j hj => by simp only [Nat.zero_add, ZEc, ZEd, ZEe, ZEf, ZEM, ZA8, ez'] <;> rfl⟩, trivial⟩
  ·simp only [Int.reduceEq, e0, e1, ez, decide_true, decide_false, pick, Bool.not_true, Bool.not_false, Bool.true_or, Bool.or_true, Bool.false_or, Bool.or_false]
   conv => whnf
   (repeat (first | (refine mS ?_; conv => whnf) | rw [natI] | rw [ZAF] | ((first | refine ZAA hP h1 ?_ | refine ZAB hP h1 ?_); (conv => whnf); refine zA ?_; conv => whnf) | (refine arW ?_; conv => whnf)))
   (refine ZAC ?_; conv => whnf); refine ⟨rfl, rfl, rfl, ?_, ?_, rfl⟩
   ·rfl
   ·exact ⟨ZAD, rfl, ZAD, ⟨rfl, rfl, fun j hj => by simp only [Nat.zero_add, ZEc, ZEd, ZEe, ZEf, ZEM, ZA8] <;> rfl⟩, trivial⟩
 by_cases e2 : L.sp t = 2
 ·have h1 := ldS nt nw hs s ta (hiA tail (L.ah t)) hta hnt hnw
  have hcl := ZM3 (rdV nw (hiA tail (L.ah t)) s)
  have hsp := ZM4 (rdV nw (hiA tail (L.ah t)) s)
  have hwt := ZIn (rdV nw (hiA tail (L.ah t)) s)
  have hgr := ZIo n t L.cl L.no L.ah L.la L.wo L.sp false ht hn
  by_cases ez : hiCl (rdV nw (hiA tail (L.ah t)) s) = L.cl t
  ·cases eq : hiSp (rdV nw (hiA tail (L.ah t)) s) with
   | true =>
    rw [eq] at hsp
    simp only [Int.reduceEq, e0, e1, e2, ez, eq, decide_true, decide_false, pick, Bool.not_true, Bool.not_false, Bool.true_or, Bool.or_true, Bool.false_or, Bool.or_false]
    conv => whnf
    (repeat (first | (refine mS ?_; conv => whnf) | rw [natI] | rw [ZAF] | ((first | refine ZAA hP fah ?_ | refine ZAB hP fah ?_ | refine ZAA hP h1 ?_ | refine ZAB hP h1 ?_ | refine ZAA hP hcl ?_ | refine ZAB hP hcl ?_ | refine ZAA hP hsp ?_ | refine ZAB hP hsp ?_ | refine ZAA hP hwt ?_ | refine ZAB hP hwt ?_); (conv => whnf); refine zA ?_; conv => whnf) | (refine arW ?_; conv => whnf)))
    (refine ZAC ?_; conv => whnf); refine ⟨rfl, rfl, rfl, ?_, ?_, rfl⟩
    ·rfl
    ·exact ⟨ZAD, rfl, ZAD, ⟨rfl, rfl, fun j hj => by simp only [Nat.zero_add, ZEc, ZEd, ZEe, ZEf, ZEM, ZA8] <;> rfl⟩, trivial⟩
   | false =>
    rw [eq] at hsp
    cases ew : hiWt (rdV nw (hiA tail (L.ah t)) s) with
    | true =>
     rw [ew] at hwt
     simp only [Int.reduceEq, e0, e1, e2, ez, eq, ew, decide_true, decide_false, pick, Bool.not_true, Bool.not_false, Bool.true_or, Bool.or_true, Bool.false_or, Bool.or_false]
     conv => whnf
     (repeat (first | (refine mS ?_; conv => whnf) | rw [natI] | rw [ZAF] | ((first | refine ZAA hP fah ?_ | refine ZAB hP fah ?_ | refine ZAA hP h1 ?_ | refine ZAB hP h1 ?_ | refine ZAA hP hcl ?_ | refine ZAB hP hcl ?_ | refine ZAA hP hsp ?_ | refine ZAB hP hsp ?_ | refine ZAA hP hwt ?_ | refine ZAB hP hwt ?_ | refine ZAA hP hgr ?_ | refine ZAB hP hgr ?_); (conv => whnf); refine zA ?_; conv => whnf) | (refine arW ?_; conv => whnf)))
     (refine ZAC ?_; conv => whnf); exact zF
    | false =>
     rw [ew] at hwt
     simp only [Int.reduceEq, e0, e1, e2, ez, eq, ew, decide_true, decide_false, pick, Bool.not_true, Bool.not_false, Bool.true_or, Bool.or_true, Bool.false_or, Bool.or_false]
     conv => whnf
     (repeat (first | (refine mS ?_; conv => whnf) | rw [natI] | rw [ZAF] | ((first | refine ZAA hP fah ?_ | refine ZAB hP fah ?_ | refine ZAA hP h1 ?_ | refine ZAB hP h1 ?_ | refine ZAA hP hcl ?_ | refine ZAB hP hcl ?_ | refine ZAA hP hsp ?_ | refine ZAB hP hsp ?_ | refine ZAA hP hwt ?_ | refine ZAB hP hwt ?_ | refine ZAA hP hgr ?_ | refine ZAB hP hgr ?_); (conv => whnf); refine zA ?_; conv => whnf) | (refine arW ?_; conv => whnf)))
     (refine ZAC ?_; conv => whnf); refine ⟨rfl, rfl, rfl, ?_, ?_, rfl⟩
     ·rfl
     ·exact ⟨ZAD, rfl, ZAD, ⟨rfl, rfl, fun j hj => by simp only [Nat.zero_add, ZEc, ZEd, ZEe, ZEf, ZEM, ZA8] <;> rfl⟩, trivial⟩
  ·simp only [Int.reduceEq, e0, e1, e2, ez, decide_true, decide_false, pick, Bool.not_true, Bool.not_false, Bool.true_or, Bool.or_true, Bool.false_or, Bool.or_false]
   conv => whnf
   (repeat (first | (refine mS ?_; conv => whnf) | rw [natI] | rw [ZAF] | ((first | refine ZAA hP fah ?_ | refine ZAB hP fah ?_ | refine ZAA hP h1 ?_ | refine ZAB hP h1 ?_ | refine ZAA hP hcl ?_ | refine ZAB hP hcl ?_ | refine ZAA hP hsp ?_ | refine ZAB hP hsp ?_ | refine ZAA hP hwt ?_ | refine ZAB hP hwt ?_); (conv => whnf); refine zA ?_; conv => whnf) | (refine arW ?_; conv => whnf)))
   (refine ZAC ?_; conv => whnf); refine ⟨rfl, rfl, rfl, ?_, ?_, rfl⟩
   ·rfl
   ·exact ⟨ZAD, rfl, ZAD, ⟨rfl, rfl, fun j hj => by simp only [Nat.zero_add, ZEc, ZEd, ZEe, ZEf, ZEM, ZA8] <;> rfl⟩, trivial⟩
 by_cases e3 : L.sp t = 3
 ·have h1 := ldS nt nw hs s ta (hiO tail (L.cl t)) hta hnt hnw
  simp only [Int.reduceEq, e0, e1, e2, e3, decide_true, decide_false, pick, Bool.not_true, Bool.not_false, Bool.true_or, Bool.or_true, Bool.false_or, Bool.or_false]
  conv => whnf
  (repeat (first | (refine mS ?_; conv => whnf) | rw [natI] | rw [ZAF] | ((first | refine ZAA hP h1 ?_ | refine ZAB hP h1 ?_); (conv => whnf); refine zA ?_; conv => whnf) | (refine arW ?_; conv => whnf)))
  (refine ZAC ?_; conv => whnf); refine ⟨rfl, rfl, rfl, ?_, ?_, rfl⟩
  ·rfl
  ·exact ⟨ZAD, rfl, ZAD, ⟨rfl, rfl, fun j hj => by simp only [Nat.zero_add, ZEc, ZEd, ZEe, ZEf, ZEM, ZA8] <;> rfl⟩, trivial⟩
 by_cases e4 : L.sp t = 4
 ·have h1 := swS nt nw hs s ta tail (u32w (L.la t)) hta hnt hnw
  simp only [Int.reduceEq, e0, e1, e2, e3, e4, decide_true, decide_false, pick, Bool.not_true, Bool.not_false, Bool.true_or, Bool.or_true, Bool.false_or, Bool.or_false]
  conv => whnf
  (repeat (first | (refine mS ?_; conv => whnf) | rw [natI] | rw [ZAF] | ((first | refine ZAA hP h1 ?_ | refine ZAB hP h1 ?_); (conv => whnf); refine zA ?_; conv => whnf) | (refine arW ?_; conv => whnf)))
  (refine ZAC ?_; conv => whnf); refine ⟨rfl, rfl, rfl, ?_, ?_, rfl⟩
  ·rfl
  ·exact ⟨ZAD, rfl, ZAD, ⟨rfl, rfl, fun j hj => by simp only [Nat.zero_add, ZEc, ZEd, ZEe, ZEf, ZEM, ZA8] <;> rfl⟩, trivial⟩
 by_cases e5 : L.sp t = 5
 ·have h1 := ldS nt nw hs s ta (hiA tail (L.la t)) hta hnt hnw
  simp only [Int.reduceEq, e0, e1, e2, e3, e4, e5, decide_true, decide_false, pick, Bool.not_true, Bool.not_false, Bool.true_or, Bool.or_true, Bool.false_or, Bool.or_false]
  conv => whnf
  (repeat (first | (refine mS ?_; conv => whnf) | rw [natI] | rw [ZAF] | ((first | refine ZAA hP fla ?_ | refine ZAB hP fla ?_ | refine ZAA hP h1 ?_ | refine ZAB hP h1 ?_); (conv => whnf); refine zA ?_; conv => whnf) | (refine arW ?_; conv => whnf)))
  (refine ZAC ?_; conv => whnf); refine ⟨rfl, rfl, rfl, ?_, ?_, rfl⟩
  ·rfl
  ·exact ⟨ZAD, rfl, ZAD, ⟨rfl, rfl, fun j hj => by simp only [Nat.zero_add, ZEc, ZEd, ZEe, ZEf, ZEM, ZA8] <;> rfl⟩, trivial⟩
 by_cases e6 : L.sp t = 6
 ·have h1 := caS nt nw hs s ta (hiA tail (L.la t)) (L.wo t) (hiSl (L.wo t)) hta hnt hnw
  have hsl := ZM6 (L.wo t)
  cases ec : casB nw (hiA tail (L.la t)) (L.wo t) s with
  | true =>
   rw [ec] at h1
   simp only [Int.reduceEq, e0, e1, e2, e3, e4, e5, e6, ec, decide_true, decide_false, pick, Bool.not_true, Bool.not_false, Bool.true_or, Bool.or_true, Bool.false_or, Bool.or_false]
   conv => whnf
   (repeat (first | (refine mS ?_; conv => whnf) | rw [natI] | rw [ZAF] | ((first | refine ZAA hP fla ?_ | refine ZAB hP fla ?_ | refine ZAA hP hsl ?_ | refine ZAB hP hsl ?_ | refine ZAA hP h1 ?_ | refine ZAB hP h1 ?_); (conv => whnf); refine zA ?_; conv => whnf) | (refine arW ?_; conv => whnf)))
   (refine ZAC ?_; conv => whnf); refine ⟨rfl, rfl, rfl, ?_, ?_, rfl⟩
   ·rfl
   ·exact ⟨ZAD, rfl, ZAD, ⟨rfl, rfl, fun j hj => by simp only [Nat.zero_add, ZEc, ZEd, ZEe, ZEf, ZEM, ZA8] <;> rfl⟩, trivial⟩
  | false =>
   rw [ec] at h1
   simp only [Int.reduceEq, e0, e1, e2, e3, e4, e5, e6, ec, decide_true, decide_false, pick, Bool.not_true, Bool.not_false, Bool.true_or, Bool.or_true, Bool.false_or, Bool.or_false]
   conv => whnf
   (repeat (first | (refine mS ?_; conv => whnf) | rw [natI] | rw [ZAF] | ((first | refine ZAA hP fla ?_ | refine ZAB hP fla ?_ | refine ZAA hP hsl ?_ | refine ZAB hP hsl ?_ | refine ZAA hP h1 ?_ | refine ZAB hP h1 ?_); (conv => whnf); refine zA ?_; conv => whnf) | (refine arW ?_; conv => whnf)))
   (refine ZAC ?_; conv => whnf); refine ⟨rfl, rfl, rfl, ?_, ?_, rfl⟩
   ·rfl
   ·exact ⟨ZAD, rfl, ZAD, ⟨rfl, rfl, fun j hj => by simp only [Nat.zero_add, ZEc, ZEd, ZEe, ZEf, ZEM, ZA8] <;> rfl⟩, trivial⟩
 by_cases e7 : L.sp t = 7
 ·have h1 := ldS nt nw hs s ta (hiA tail (L.ah t)) hta hnt hnw
  have hwt := ZIn (rdV nw (hiA tail (L.ah t)) s)
  have hgr := ZIo n t L.cl L.no L.ah L.la L.wo L.sp true ht hn
  cases ew : hiWt (rdV nw (hiA tail (L.ah t)) s) with
  | true =>
   rw [ew] at hwt
   simp only [Int.reduceEq, e0, e1, e2, e3, e4, e5, e6, e7, ew, decide_true, decide_false, pick, Bool.not_true, Bool.not_false, Bool.true_or, Bool.or_true, Bool.false_or, Bool.or_false]
   conv => whnf
   (repeat (first | (refine mS ?_; conv => whnf) | rw [natI] | rw [ZAF] | ((first | refine ZAA hP fah ?_ | refine ZAB hP fah ?_ | refine ZAA hP h1 ?_ | refine ZAB hP h1 ?_ | refine ZAA hP hwt ?_ | refine ZAB hP hwt ?_ | refine ZAA hP hgr ?_ | refine ZAB hP hgr ?_); (conv => whnf); refine zA ?_; conv => whnf) | (refine arW ?_; conv => whnf)))
   (refine ZAC ?_; conv => whnf); exact zF
  | false =>
   rw [ew] at hwt
   simp only [Int.reduceEq, e0, e1, e2, e3, e4, e5, e6, e7, ew, decide_true, decide_false, pick, Bool.not_true, Bool.not_false, Bool.true_or, Bool.or_true, Bool.false_or, Bool.or_false]
   conv => whnf
   (repeat (first | (refine mS ?_; conv => whnf) | rw [natI] | rw [ZAF] | ((first | refine ZAA hP fah ?_ | refine ZAB hP fah ?_ | refine ZAA hP h1 ?_ | refine ZAB hP h1 ?_ | refine ZAA hP hwt ?_ | refine ZAB hP hwt ?_ | refine ZAA hP hgr ?_ | refine ZAB hP hgr ?_); (conv => whnf); refine zA ?_; conv => whnf) | (refine arW ?_; conv => whnf)))
   (refine ZAC ?_; conv => whnf); refine ⟨rfl, rfl, rfl, ?_, ?_, rfl⟩
   ·rfl
   ·exact ⟨ZAD, rfl, ZAD, ⟨rfl, rfl, fun j hj => by simp only [Nat.zero_add, ZEc, ZEd, ZEe, ZEf, ZEM, ZA8] <;> rfl⟩, trivial⟩
 ·simp only [e0, e1, e2, e3, e4, e5, e6, e7, decide_true, decide_false, pick, Bool.not_true, Bool.not_false, Bool.true_or, Bool.or_true, Bool.false_or, Bool.or_false]
  conv => whnf
  (repeat (first | (refine mS ?_; conv => whnf) | rw [natI] | rw [ZAF] | (refine arW ?_; conv => whnf)))
  (refine ZAC ?_; conv => whnf); exact zF
theorem ZNA (n nt nw t ta : Nat) (tail : Int) (hs : Nat -> Int) (L : HL) (s : PS) (ht : t < n) (hta : ta < nt) (hnt : nt <= 64) (hn : n <= 64) (hnw : nw <= 4096) (htl : 0 <= tail /\ tail <= 4096) :
  ZAH Tryz.prog 263 (ZGy n nt nw tail hs L s) 4 [.l (.p 0 0 0 0), .l (.p 3 6 t 0), .l (.v (.int .i64 ta))] fun x h k =>
   x = sInt .i64 (hiUl nw tail t ta L s).1 /\ k = 4 /\ h = ZGy n nt nw tail hs (hiUl nw tail t ta L s).2.1 (hiUl nw tail t ta L s).2.2 := by
 refine sE Tryz.func263 ic263_eq [.t 6] fun G hP hA => ?_
 unfold evF ic263 hiUl
 have fno := ZEv n tail (L.no t) htl
 have hfr := ZM5 (L.wo t)
 by_cases e0 : L.sp t = 0
 ·have h1 := ldS nt nw hs s ta (hiA tail (L.no t)) hta hnt hnw
  simp only [e0, decide_true, pick]
  conv => whnf
  (repeat (first | (refine mS ?_; conv => whnf) | rw [natI] | rw [ZAF] | ((first | refine ZAA hP fno ?_ | refine ZAB hP fno ?_ | refine ZAA hP h1 ?_ | refine ZAB hP h1 ?_); (conv => whnf); refine zA ?_; conv => whnf) | (refine arW ?_; conv => whnf)))
  (refine ZAC ?_; conv => whnf); refine ⟨rfl, rfl, rfl, ?_, ?_, rfl⟩
  ·rfl
  ·exact ⟨ZAD, rfl, ZAD, ⟨rfl, rfl, fun j hj => by simp only [Nat.zero_add, ZEc, ZEd, ZEe, ZEf, ZEM, ZA8] <;> rfl⟩, trivial⟩
 ·have h1 := caS nt nw hs s ta (hiA tail (L.no t)) (L.wo t) (hiFr (L.wo t)) hta hnt hnw
  cases ec : casB nw (hiA tail (L.no t)) (L.wo t) s with
  | true =>
   rw [ec] at h1
   simp only [e0, ec, decide_false, pick]
   conv => whnf
   (repeat (first | (refine mS ?_; conv => whnf) | rw [natI] | rw [ZAF] | ((first | refine ZAA hP fno ?_ | refine ZAB hP fno ?_ | refine ZAA hP hfr ?_ | refine ZAB hP hfr ?_ | refine ZAA hP h1 ?_ | refine ZAB hP h1 ?_); (conv => whnf); refine zA ?_; conv => whnf) | (refine arW ?_; conv => whnf)))
   (refine ZAC ?_; conv => whnf); refine ⟨rfl, rfl, rfl, ?_, ?_, rfl⟩
   ·rfl
   ·exact ⟨ZAD, rfl, ZAD, ⟨rfl, rfl, fun j hj => by simp only [Nat.zero_add, ZEc, ZEd, ZEe, ZEf, ZEM, ZA8] <;> rfl⟩, trivial⟩
  | false =>
   rw [ec] at h1
   simp only [e0, ec, decide_false, pick]
   conv => whnf
   (repeat (first | (refine mS ?_; conv => whnf) | rw [natI] | rw [ZAF] | ((first | refine ZAA hP fno ?_ | refine ZAB hP fno ?_ | refine ZAA hP hfr ?_ | refine ZAB hP hfr ?_ | refine ZAA hP h1 ?_ | refine ZAB hP h1 ?_); (conv => whnf); refine zA ?_; conv => whnf) | (refine arW ?_; conv => whnf)))
   (refine ZAC ?_; conv => whnf); refine ⟨rfl, rfl, rfl, ?_, ?_, rfl⟩
   ·rfl
   ·exact ⟨ZAD, rfl, ZAD, ⟨rfl, rfl, fun j hj => by simp only [Nat.zero_add, ZEc, ZEd, ZEe, ZEf, ZEM, ZA8] <;> rfl⟩, trivial⟩
theorem ZNB (n nt nw t ta : Nat) (tail now : Int) (hs : Nat -> Int) (L : HL) (s : PS) (ht : t < n) (hta : ta < nt) (hnt : nt <= 64) (hn : n <= 64) (hnw : nw <= 4096) (htl : 0 <= tail /\ tail <= 4096) :
  ZAH Tryz.prog 260 (ZGy n nt nw tail hs L s) 4 [.l (.p 0 0 0 0), .l (.v (.int .i64 t)), .l (.v (.int .i64 ta)), .l (.v (.int .i64 now))] fun x h k =>
   x = didO (ZM8 t (ZM7 nw tail t ta L s)).1 /\ k = 4 /\ h = ZGy n nt nw tail hs (ZM8 t (ZM7 nw tail t ta L s)).2.1 (ZM8 t (ZM7 nw tail t ta L s)).2.2 := by
 have hst := ZBC n L.ss.st L.ss.dl false false t ht hn
 have hlk := ZM9 n nt nw t ta tail hs L s ht hta hnt hn hnw htl
 have hul := ZNA n nt nw t ta tail hs L s ht hta hnt hn hnw htl
 refine sE Tryz.func260 ic260_eq [.ca 8 4] fun G hP hA => ?_
 unfold evF ic260 ZM7 ZM8
 by_cases e1 : L.ss.st t = 1
 ·rw [e1] at hst
  simp only [e1, decide_true, pick]
  generalize hiLk nw tail t ta L s = r at hlk ⊢
  have hen := ZAa n r.2.1.ss.st r.2.1.ss.dl false false t r.1.e ht hn
  conv => whnf
  (repeat (first | (refine mS ?_; conv => whnf) | rw [natI] | rw [ZAF] | ((first | refine ZAA hP hst ?_ | refine ZAB hP hst ?_ | refine ZAA hP hlk ?_ | refine ZAB hP hlk ?_ | refine ZAA hP hen ?_ | refine ZAB hP hen ?_); (conv => whnf); refine zA ?_; conv => whnf) | (refine arW ?_; conv => whnf)))
  (refine ZAC ?_; conv => whnf); exact zF
 by_cases e3 : L.ss.st t = 3
 ·rw [e3] at hst
  simp only [Int.reduceEq, e3, decide_true, decide_false, pick]
  generalize hiUl nw tail t ta L s = r at hul ⊢
  have hen := ZAa n r.2.1.ss.st r.2.1.ss.dl false false t r.1 ht hn
  conv => whnf
  (repeat (first | (refine mS ?_; conv => whnf) | rw [natI] | rw [ZAF] | ((first | refine ZAA hP hst ?_ | refine ZAB hP hst ?_ | refine ZAA hP hul ?_ | refine ZAB hP hul ?_ | refine ZAA hP hen ?_ | refine ZAB hP hen ?_); (conv => whnf); refine zA ?_; conv => whnf) | (refine arW ?_; conv => whnf)))
  (refine ZAC ?_; conv => whnf); exact zF
 ·have hen := ZAa n L.ss.st L.ss.dl false false t 0 ht hn
  simp only [e1, e3, decide_false, pick]
  conv => whnf
  (repeat (first | (refine mS ?_; conv => whnf) | rw [natI] | rw [ZAF] | ((first | refine ZAA hP hst ?_ | refine ZAB hP hst ?_ | refine ZAA hP hen ?_ | refine ZAB hP hen ?_); (conv => whnf); refine zA ?_; conv => whnf) | (refine arW ?_; conv => whnf)))
  (refine ZAC ?_; conv => whnf); exact zF
theorem ZAH.sup {P : Program} {f : FuncId} {α : Type} {k : Nat} {ks : List Nat} {R : α -> List Go.Sx.Loc -> Go.Sx.Loc -> List Nat -> World -> Prop} {h : Heap} {np : Nat} {args : List AV} {Q : SV -> Heap -> Nat -> Prop} (hb : ZCa P f = true) (hs : ∀ a ls, ZCf (R a ls))
  (hk : hget h k = some (.ob ks fun ls l F w => ∃ a, R a ls l F w)) (H : ∀ a, ZAH P f ((k, some (.ob ks (R a))) :: h) np args Q) : ZAH P f h np args Q := by
 refine ⟨hb, fun ρ φ w hm hok hgw hgf => ?_⟩
 obtain ⟨s1, s2, a, s3⟩ := hm.at_ k _ hk
 have hm2 := ZGl hm hk rfl (e' := .ob ks (R a)) ⟨hs a _, s2, s3⟩
 have own : ∀ b, Own ((k, some (.ob ks (R a))) :: h) φ b -> Own h φ b := fun b ⟨j, e, hj, ho, hb⟩ => by
  rw [ZAN] at hj
  split at hj
  ·rename_i hh; subst hh; exact ⟨k, _, hk, rfl, hb⟩
  ·exact ⟨j, e, hj, ho, hb⟩
 refine ((H a).2 ρ φ w hm2 hok hgw fun b vs hb ho => hgf b vs hb (own b ho)).mono fun e w' ⟨x, h', n', ρ', φ', q1, q2, q3, q4, q5, q6, q7, q8⟩ =>
  ⟨x, h', n', ρ', φ', q1, q2, q3, q4, q5, q6, ⟨q7.size, fun b hb hn => q7.blk b hb fun ho => hn (own b ho), q7.os, q7.tape, q7.output⟩, fun j e' hj ho b hb => ?_⟩
 rcases q8 j e' hj ho b hb with h1 | h1
 ·exact .inl (own b h1)
 ·exact .inr h1
theorem ZHj (E T : Nat) (row : Nat -> Nat -> List Value) (val : Nat -> Value) (t : Nat) (ht : t < T) (hE : E <= 1000000) :
  ZAH Tryz.prog 159 [(0, some (.ob [] (ZEp E row T val)))] 1 [.l (.v (val t))] fun x h n => x = .o (.l (.s 1 1 0 E 0)) /\ n = 2 /\ h = [(0, some (.ob [] (ZEp E row T val))), (1, some (.ar 1 E (row t)))] := by
 have hc := ZGO (row t) E hE
 refine ⟨hc.1, fun ρ φ w hm hok hgw hgf => ?_⟩
 obtain ⟨s1, s2, L, Fs, s3, s4⟩ := hm.at_ 0 _ rfl
 obtain ⟨v1, v2⟩ := s3 t ht
 have hsz : ∀ b ∈ φ 0, b < w.heap.size := hm.sz 0 _ rfl
 have hm1 : HM [(0, some (.ro 1 E (row t)))] (lt 1) (fun _ => L t) (fun _ => Fs t) w := by
  refine ⟨fun k e hk => ?_, fun k e hk => ?_, fun k k' e e' hk hk' hne ho => ?_, fun k e hk b hb => ?_⟩
  ·rw [ZAN] at hk
   split at hk
   ·cases hk
    exact ZCY.at_ (ι := id) (e' := .ar 1 E (row t)) (ρ := fun _ => L t) (D := lt 1) (D' := lt 1) ⟨rfl, Nat.le_refl _, fun _ _ => rfl⟩ (fun _ h => h) v2
   ·cases hk
  ·rw [ZAN] at hk
   split at hk
   ·rename_i hh; subst hh; exact Nat.zero_lt_one
   ·cases hk
  ·rw [ZAN] at hk
   split at hk
   ·cases hk; cases ho
   ·cases hk
  ·rw [ZAN] at hk
   split at hk
   ·cases hk; exact hsz b ((s4 b).2 ⟨t, ht, hb⟩)
   ·cases hk
 have hargs : [AV.l (LV.v (val t))].map (AV.at ρ) = [AV.l (LV.s 0 1 0 E 0)].map (AV.at fun _ => L t) := by
  show [val t] = [(LV.s 0 1 0 E 0).at fun _ => L t]
  rw [v1]
 rw [hargs]
 have hoks : ∀ x ∈ [AV.l (LV.s 0 1 0 E 0)], x.ok (fun _ => L t) (lt 1) := fun x hx => by
  simp only [List.mem_singleton] at hx
  subst hx
  refine ⟨Nat.zero_lt_one, fun hn => ?_, fun hn => ⟨?_, .inl (dof0 _ _), Nat.le_refl _⟩⟩
  ·rcases v2 with ⟨_, h, _⟩ | ⟨h, _⟩
   ·exact h
   ·rw [hn] at h; cases h
  ·rcases v2 with ⟨h, _⟩ | ⟨_, _, _, h, _⟩
   ·rw [hn] at h; cases h
   ·rw [Nat.zero_add]; exact h
 have noown : ∀ b, ¬ Own [(0, some (Ent.ro 1 E (row t)))] (fun _ => Fs t) b := fun b ⟨k, e, hk, ho, hb⟩ => by
  rw [ZAN] at hk
  split at hk
  ·cases hk; cases ho
  ·cases hk
 refine (hc.2 _ _ w hm1 hoks hgw fun b vs hb ho => absurd ho (noown b)).mono fun e w' ⟨x, h', n', ρ', φ', q1, ⟨qx, qn, qh⟩, q3, q4, q5, q6, q7, q8⟩ => ?_
 subst qx qn qh
 have hfresh : ∀ b ∈ φ' 1, w.heap.size <= b := fun b hb => by
  rcases q8 1 _ rfl rfl b hb with h1 | h1
  ·exact absurd h1 (noown b)
  ·exact h1
 have hkeep : ∀ b ∈ φ 0, w'.heap[b]? = w.heap[b]? := fun b hb => q7.blk b (hsz b hb) (noown b)
 refine ⟨_, _, 2, fun k => if k = 0 then ρ 0 else ρ' k, fun k => if k = 0 then φ 0 else φ' k, ?_, ⟨rfl, rfl, rfl⟩, by omega, fun k hk => ?_, ⟨fun k e hk => ?_, fun k e hk => ?_, fun k k' e e' hk hk' hne ho b hb hb' => ?_, fun k e hk b hb => ?_⟩, ?_, ⟨q7.size, fun b hb _ => q7.blk b hb (noown b), q7.os, q7.tape, q7.output⟩, fun k e hk ho b hb => ?_⟩
 ·rw [q1]
  exact congrArg Ending.returned (show (LV.s 1 1 0 E 0).at ρ' = (LV.s 1 1 0 E 0).at (fun k => if k = 0 then ρ 0 else ρ' k) from rfl)
 ·obtain rfl : k = 0 := by omega
  rfl
 ·rw [ZAN] at hk
  split at hk
  ·rename_i hh; subst hh; cases hk
   exact ⟨ZB5 _ _ _ _ _, fun k hk => (by cases hk), ZB5 _ _ _ _ _ _ _ _ _ ⟨L, Fs, s3, s4⟩ hkeep⟩
  ·rename_i hh
   rw [ZAN] at hk
   split at hk
   ·rename_i h1; subst h1; cases hk
    exact q5.at_ 1 _ rfl
   ·cases hk
 ·rw [ZAN] at hk
  split at hk
  ·rename_i hh; subst hh; exact Nat.zero_lt_two
  ·rw [ZAN] at hk
   split at hk
   ·rename_i h1; subst h1; exact Nat.one_lt_two
   ·cases hk
 ·have c1 : ∀ j ej, hget [(0, some (Ent.ob [] (ZEp E row T val))), (1, some (Ent.ar 1 E (row t)))] j = some ej -> j = 0 \/ j = 1 := fun j ej hj => by
   rw [ZAN] at hj
   split at hj
   ·rename_i hh; exact .inl hh.symm
   ·rw [ZAN] at hj
    split at hj
    ·rename_i h1; exact .inr h1.symm
    ·cases hj
  rcases c1 k e hk with rfl | rfl <;> rcases c1 k' e' hk' with rfl | rfl
  ·exact hne rfl
  ·have h1 := hsz b hb
   have h2 := hfresh b hb'
   omega
  ·have h1 := hsz b hb'
   have h2 := hfresh b hb
   omega
  ·exact hne rfl
 ·rw [ZAN] at hk
  split at hk
  ·rename_i hh; subst hh
   exact Nat.lt_of_lt_of_le (hsz b hb) q7.size
  ·rename_i hh
   rw [ZAN] at hk
   split at hk
   ·rename_i h1; subst h1; cases hk
    exact q5.sz 1 _ rfl b hb
   ·cases hk
 ·have := q6
  exact this
 ·rw [ZAN] at hk
  split at hk
  ·rename_i hh; subst hh; cases hk
   exact .inl ⟨0, _, rfl, rfl, hb⟩
  ·rename_i hh
   rw [ZAN] at hk
   split at hk
   ·rename_i h1; subst h1; cases hk
    exact .inr (hfresh b hb)
   ·cases hk
def ZFd (T E : Nat) (val : Nat -> Value) : Heap := [(0, some (.st [.s 1 1 0 T 0, .s 2 1 0 (outN T E) 0])), (1, some (.ar 1 T fun j => [val j])), (2, some (.ar 1 (outN T E) (ZH6 fun _ => false))), (4, some (.ob [] (ZEp E (rowE E) T val)))]
def ZNC (T E : Nat) : List Go.Sx.Loc -> Go.Sx.Loc -> List Nat -> World -> Prop := fun ls l F w => ∃ val, ZAs (ZFd T E val) 5 ls l F w
def ZND (T E : Nat) : Ent := .ob [] (ZNC T E)
theorem ZEw (T E : Nat) (ls : List Go.Sx.Loc) : ZCf (ZNC T E ls) := fun l F w w' ⟨val, h⟩ hw => ⟨val, ZBW _ _ _ l F w w' h hw⟩
theorem ZNE {T E : Nat} (hT : 1 <= T) {ls : List Go.Sx.Loc} {l : Go.Sx.Loc} {F : List Nat} {w : World} (h : ZPl T E ls l F w) : ZNC T E ls l F w := by
 obtain ⟨val, ρ, φ, p1, p2, hm, p3⟩ := h
 have A := hm.at_ 3 _ rfl
 obtain ⟨Z1, Z2, L, Fs, Z3, Z4⟩ := hm.at_ 4 _ rfl
 have he : ZBr (.ob [] (ZEp E (rowE E) T fun j => if j = T - 1 then (LV.s 3 1 0 E 0).at ρ else val j)) ρ (lt 5) (ρ 4) (φ 4 ++ φ 3) w := by
  refine ⟨ZB5 _ _ _ _ _, fun k hk => (by cases hk), fun j => if j = T - 1 then ρ 3 else L j, fun j => if j = T - 1 then φ 3 else Fs j, fun j hj => ?_, fun b => ?_⟩
  ·by_cases hja : j = T - 1
   ·subst hja
    simp only [if_true]
    exact ⟨rfl, A⟩
   ·simp only [hja, if_false]
    exact Z3 j (by omega)
  ·rw [List.mem_append, Z4 b]
   constructor
   ·rintro (⟨j, hj, hb⟩ | hb)
    ·exact ⟨j, by omega, by simp only [if_neg (show ¬ j = T - 1 by omega)]; exact hb⟩
    ·exact ⟨T - 1, by omega, by simp only [if_true]; exact hb⟩
   ·rintro ⟨j, hj, hb⟩
    by_cases hja : j = T - 1
    ·subst hja
     simp only [if_true] at hb; exact .inr hb
    ·simp only [if_neg hja] at hb; exact .inl ⟨j, by omega, hb⟩
 have hm1 := ZLd (k := 3) (kz := 4) hm (by decide) (hk := rfl) rfl (hz := rfl) rfl he
 obtain ⟨⟨c1, c2, c3, c4, c5⟩, ⟨c6, _⟩, cs, t, c7, c8, c9⟩ := hm1.at_ 1 _ rfl
 have hm2 := ZGl hm1 (k := 1) rfl rfl (e' := .ar 1 T fun j => [if j = T - 1 then (LV.s 3 1 0 E 0).at ρ else val j]) (.inr ⟨c1, c2.1 ▸ c2, c3, c4, c5, cs, t, c7, c8, fun i hi => by
  obtain ⟨d1, d2⟩ := c9 i hi
  have e0 : (if i = T - 1 then (LV.s 3 1 0 E 0).at ρ else ZKd (T - 1) val i) = (if i = T - 1 then (LV.s 3 1 0 E 0).at ρ else val i) := by
   by_cases h1 : i = T - 1
   ·simp only [h1, if_true]
   ·simp only [h1, if_false, ZKd, if_pos (show i < T - 1 by omega)]
  rw [e0] at d1 d2
  refine ⟨rfl, fun x hx => ?_, fun j hj => ?_⟩
  ·simp only [List.mem_singleton] at hx
   subst hx; exact d2
  ·obtain rfl : j = 0 := by omega
   rw [Nat.mul_one, Nat.add_zero]
   exact d1⟩)
 have hm3 := ZOC (h' := ZFd T E fun j => if j = T - 1 then (LV.s 3 1 0 E 0).at ρ else val j) [0, 1, 2, 3, 4] hm2 rfl ⟨rfl, ⟨rfl, rfl, fun _ _ => rfl⟩, ⟨rfl, rfl, fun _ _ => rfl⟩, ⟨rfl, .inl rfl⟩, trivial⟩ rfl
 have hr : ∀ k, k < 5 -> ren1 [0, 1, 2, 3, 4] 5 k = k := by decide
 have hm4 : HM (ZFd T E fun j => if j = T - 1 then (LV.s 3 1 0 E 0).at ρ else val j) (lt 5) ρ (fun j => if j = 4 then φ 4 ++ φ 3 else φ j) w := by
  refine ⟨fun k e hk => ?_, hm3.lt, fun k k' e e' hk hk' hne ho b hb hb' => ?_, fun k e hk b hb => ?_⟩
  ·have h1 := hm3.at_ k e hk
   have h2 := hr k (hm3.lt k e hk)
   simp only [h2] at h1
   exact ZBr.mono (fun k hk => by simp only [hr k hk]) (fun _ h => h) (fun _ _ => rfl) h1
  ·have h1 := hm3.dj k k' e e' hk hk' hne ho b
   rw [hr k (hm3.lt k e hk), hr k' (hm3.lt k' e' hk')] at h1
   exact h1 hb hb'
  ·have h1 := hm3.sz k e hk b
   rw [hr k (hm3.lt k e hk)] at h1
   exact h1 hb
 refine ⟨_, ρ, _, p1, p2, hm4, fun b => ?_⟩
 rw [p3 b]
 constructor
 ·rintro ⟨k, e, hk, hb⟩
  have h5 := hm.lt k e hk
  by_cases h3 : k = 3
  ·subst h3
   exact ⟨4, _, rfl, by simp only [if_true]; exact List.mem_append.2 (.inr hb)⟩
  by_cases h4 : k = 4
  ·subst h4
   exact ⟨4, _, rfl, by simp only [if_true]; exact List.mem_append.2 (.inl hb)⟩
  ·rcases (show k = 0 \/ k = 1 \/ k = 2 by have : k < 5 := h5; omega) with rfl | rfl | rfl
   ·exact ⟨0, _, rfl, hb⟩
   ·exact ⟨1, _, rfl, hb⟩
   ·exact ⟨2, _, rfl, hb⟩
 ·rintro ⟨k, e, hk, hb⟩
  have h5 := hm4.lt k e hk
  by_cases h4 : k = 4
  ·subst h4
   simp only [if_true] at hb
   rcases List.mem_append.1 hb with hb | hb
   ·exact ⟨4, _, rfl, hb⟩
   ·exact ⟨3, _, rfl, hb⟩
  ·simp only [if_neg h4] at hb
   rcases (show k = 0 \/ k = 1 \/ k = 2 \/ k = 3 by have : k < 5 := h5; omega) with rfl | rfl | rfl | rfl
   ·exact ⟨0, _, rfl, hb⟩
   ·exact ⟨1, _, rfl, hb⟩
   ·exact ⟨2, _, rfl, hb⟩
   ·cases hk
theorem ZLo (T E : Nat) (val : Nat -> Value) (t : Nat) (ht : t < T) (hT : T <= 64) (hE : E <= 8) :
  ZAH Tryz.prog 256 (ZFd T E val) 5 [.l (.p 0 0 0 0), .l (.v (.int .i64 t))] fun x h k => x = .o (.l (.s 5 1 0 E 0)) /\ k = 6 /\ h = (5, some (.ar 1 E (rowE E t))) :: ZFd T E val := by
 have hc := ZHj E T (rowE E) val t ht (by omega)
 refine sE Tryz.func256 ic256_eq [.t 4] fun G hP hA => ?_
 unfold evF ic256
 cases hv : val t
 all_goals
  rw [hv, <- hP] at hc
  conv => whnf
  (repeat (first | (refine mS ?_; conv => whnf) | rw [natI] | rw [ZAF] | (refine arW ?_; conv => whnf)))
  rw [hv]
  conv => whnf
  refine ZF3 hc [4] rfl rfl rfl ⟨⟨rfl, .inl rfl⟩, trivial⟩ rfl rfl ?_
  conv => whnf
  refine ZCs [0, 1, 2, 3, 4, 5] _ _ 6 rfl ⟨rfl, rfl, rfl⟩ rfl rfl rfl ?_ rfl
  exact ZAD
theorem ZIp (T E t : Nat) (ht : t < T) (hT : T <= 64) (hE : E <= 8) :
  ZAH Tryz.prog 256 [(0, some (ZND T E))] 1 [.l (.p 0 0 0 0), .l (.v (.int .i64 t))] fun x h k => x = .o (.l (.s 1 1 0 E 0)) /\ k = 2 /\ h = [(0, some (ZND T E)), (1, some (.ar 1 E (rowE E t)))] := by
 refine ZAH.sup (k := 0) (by kernel_rfl) (fun val ls => ZBW (ZFd T E val) 5 ls) rfl fun val => ?_
 have h1 := ZLo T E val t ht hT hE
 refine ZAH.refin (ZAH.ghost (ZAd 0 (ks := []) (H := ZFd T E val) (np := 5) rfl (by decide) rfl rfl rfl) (ZAH.pre h1 ?_)) ?_
 ·exact ZAD
 ·rintro x h n ⟨rfl, rfl, rfl⟩ _
  refine ZBF (ZCW [0, 1, 2, 3, 4] (H := ZFd T E val) (np := 5) 0 rfl (by decide) rfl rfl ?_ rfl) (by decide) ?_
  ·exact ZAD
  conv => whnf
  (refine ZAC ?_; conv => whnf); refine ⟨rfl, rfl, rfl, ?_, ?_, rfl⟩
  ·rfl
  ·exact ⟨⟨rfl, .inr ⟨fun ls => ZEw _ _ _, fun ls l F w hh => ⟨val, hh⟩⟩⟩, ZAD, trivial⟩
structure AL where
 ss : SS
 sp : Nat -> Int
 tr : Nat -> Int
 no : Nat -> Int
 ot : Nat -> Int
def ZBx (m E : Nat) (tail : Int) (st dl stp tr no ot : Nat -> Int) : Heap := [(0, some (.st [.p 2 0 0 0, .p 1 0 0 0, .p 3 0 0 0, .v (.int .i64 tail), .s 4 4 0 m 0])), (2, some (ZBe m st dl true false)), (3, some (ZND m E)), (4, some (.ar 4 m (ZBh stp tr no ot)))]
def ZEx (n E nt nw : Nat) (tail : Int) (hs : Nat -> Int) (L : AL) (s : PS) : Heap := (1, some (ZBO nt nw hs s)) :: ZBx n E tail L.ss.st L.ss.dl L.sp L.tr L.no L.ot
def ZLI (n E nt nw : Nat) (tail : Int) (hs : Nat -> Int) (t : Nat) (L : AL) (s : PS) : Heap := (5, some (.ar 1 E (rowE E t))) :: ZEx n E nt nw tail hs L s
def abA (tail k : Int) : Int := i64w (i64w (tail + i64w (3 * k)) - 2)
def abS (n : Nat) (tail : Int) : Heap := [(0, some (.st [.p 2 0 0 0, .p 1 0 0 0, .p 3 0 0 0, .v (.int .i64 tail), .s 4 4 0 n 0]))]
theorem ZDw (n : Nat) (tail u : Int) :
  ZAH Tryz.prog 258 (abS n tail) 5 [.l (.p 0 0 0 0), .l (.v (.int .i64 u))] fun x h m => x = sInt .i64 (abA tail u) /\ m = 5 /\ h = abS n tail := by
 refine sE Tryz.func258 ic258_eq [.t 4] fun G hP hA => ?_
 unfold evF ic258
 conv => whnf
 (repeat (first | (refine mS ?_; conv => whnf) | rw [natI] | rw [ZAF] | (refine arW ?_; conv => whnf)))
 (refine ZAC ?_; conv => whnf); exact zF
def abN (E t : Nat) (k : Int) : Int := (t : Int) * E + (k.toNat : Int) + 1
def abSr (E nw : Nat) (tail : Int) (t ta : Nat) (L : AL) (s : PS) : Dd × AL × PS :=
 let a := i64w (abA tail (abN E t (L.tr t)) + 2)
 (evD (pick (decide (rdV nw a s = 0)) 0 (pick (decide (L.tr t + 1 = (E : Int))) 6 0)), ⟨L.ss, pick (decide (rdV nw a s = 0)) (updF L.sp t 1) L.sp, updF L.tr t (L.tr t + 1), updF L.no t (abN E t (L.tr t)), L.ot⟩, rdS nw ta a s)
def abNx (L : AL) (t : Nat) (k : Int) : AL := ⟨L.ss, updF L.sp t k, L.tr, L.no, L.ot⟩
def abLk (E nw : Nat) (tail : Int) (t ta : Nat) (late : Bool) (L : AL) (s : PS) : Dd × AL × PS :=
 let a := abA tail (L.no t)
 pick (decide (L.sp t = 0)) (abSr E nw tail t ta L s)
 (pick (decide (L.sp t = 1)) (evD 0, abNx L t 2, wtS nw ta (i64w (a + 2)) 1 s)
 (pick (decide (L.sp t = 2)) (evD 0, abNx L t 3, wtS nw ta a 0 s)
 (pick (decide (L.sp t = 3)) (evD 0, abNx L t 4, wtS nw ta (i64w (a + 1)) 0 s)
 (pick (decide (L.sp t = 4)) (⟨pick (decide (i64w (rdV nw tail s) = 0)) 1 0, true, false, false⟩, ⟨L.ss, pick (decide (i64w (rdV nw tail s) = 0)) L.sp (updF L.sp t 5), L.tr, L.no, updF L.ot t (i64w (rdV nw tail s))⟩, wtS nw ta tail (u32w (L.no t)) s)
 (pick (decide (L.sp t = 5)) (evD 0, abNx L t 6, wtS nw ta (i64w (abA tail (L.ot t) + 1)) (u32w (L.no t)) s)
 (pick (decide (L.sp t = 6)) (evD (pick (decide (rdV nw a s = 0)) 0 1), pick (decide (rdV nw a s = 0) && late) (abNx L t 7) L, rdS nw ta a s)
 (pick (decide (L.sp t = 7)) (evD (pick (casB nw a 0 s) 2 1), L, casS nw ta a 0 2 s)
  (evD 0, abNx L t (i64w (L.sp t + 1)), s))))))))
def abUl (nw : Nat) (tail : Int) (t ta : Nat) (L : AL) (s : PS) : Int × AL × PS :=
 let a := abA tail (L.no t)
 let o := i64w (rdV nw (i64w (a + 1)) s)
 pick (decide (L.sp t = 0) || decide (L.sp t = 2)) (0, ⟨L.ss, pick (decide (o = 0)) (pick (decide (L.sp t = 0)) (updF L.sp t 1) L.sp) (updF L.sp t 3), L.tr, L.no, updF L.ot t o⟩, rdS nw ta (i64w (a + 1)) s)
 (pick (decide (L.sp t = 1)) (0, abNx L t (pick (casB nw tail (u32w (L.no t)) s) 5 2), casS nw ta tail (u32w (L.no t)) 0 s)
 (pick (decide (L.sp t = 3)) (0, abNx L t (pick (casB nw (abA tail (L.ot t)) 0 s) 5 4), casS nw ta (abA tail (L.ot t)) 0 1 s)
 (pick (decide (L.sp t = 4)) (0, ⟨L.ss, updF L.sp t 0, updF L.tr t 0, updF L.no t (L.ot t), updF L.ot t 0⟩, wtS nw ta (i64w (a + 2)) 0 s)
 (pick (decide (L.sp t = 5)) (3, L, wtS nw ta (i64w (a + 2)) 0 s)
  (0, L, s)))))
def ZLJ (dl : Nat -> Int) (t : Nat) (now : Int) : Bool := decide (0 <= dl t) && decide (dl t <= now)
def ZLp (E nw : Nat) (tail : Int) (t ta : Nat) (now : Int) (L : AL) (s : PS) : Dd × AL × PS :=
 pick (decide (L.ss.st t = 1)) (abLk E nw tail t ta (ZLJ L.ss.dl t now) L s) (pick (decide (L.ss.st t = 3)) (evD (abUl nw tail t ta L s).1, (abUl nw tail t ta L s).2) (evD 0, L, s))
def ZIq (t : Nat) (r : Dd × AL × PS) : Dd × AL × PS :=
 (r.1, pick (enB r.2.1.ss.st t r.1.e) ⟨enSS r.2.1.ss t r.1.e, updF r.2.1.sp t 0, updF r.2.1.tr t 0, r.2.1.no, updF r.2.1.ot t 0⟩ ⟨enSS r.2.1.ss t r.1.e, r.2.1.sp, r.2.1.tr, r.2.1.no, r.2.1.ot⟩, r.2.2)
def ZB1 (E n nw : Nat) (tail : Int) (t now : Int) (ta : Nat) (L : AL) (s : PS) : Dd × AL × PS :=
 match inW n t with | true => ZIq t.toNat (ZLp E nw tail t.toNat ta now L s) | false => (evD 0, L, s)
def abOk (n E : Nat) (L : AL) : Prop := ∀ t, t < n -> L.ss.st t = 1 -> L.sp t = 0 -> 0 <= L.tr t /\ L.tr t < E
theorem ZDT (sp tr no ot : Nat -> Int) (i : Nat) (v : Int) (j : Nat) : mrgL (j = i) (ZAL (ZBh sp tr no ot j) 0 [.int .i64 v]) (ZBh sp tr no ot j) = ZBh (updF sp i v) tr no ot j := by
 simp only [ZBh, updF, ZAL, setL, mrgL, ZBJ]
 by_cases h : j = i <;> simp [h]
theorem ZDU (sp tr no ot : Nat -> Int) (i : Nat) (v : Int) (j : Nat) : mrgL (j = i) (ZAL (ZBh sp tr no ot j) 1 [.int .i64 v]) (ZBh sp tr no ot j) = ZBh sp (updF tr i v) no ot j := by
 simp only [ZBh, updF, ZAL, setL, mrgL, ZBJ]
 by_cases h : j = i <;> simp [h]
theorem ZDV (sp tr no ot : Nat -> Int) (i : Nat) (v : Int) (j : Nat) : mrgL (j = i) (ZAL (ZBh sp tr no ot j) 2 [.int .i64 v]) (ZBh sp tr no ot j) = ZBh sp tr (updF no i v) ot j := by
 simp only [ZBh, updF, ZAL, setL, mrgL, ZBJ]
 by_cases h : j = i <;> simp [h]
theorem ZDW (sp tr no ot : Nat -> Int) (i : Nat) (v : Int) (j : Nat) : mrgL (j = i) (ZAL (ZBh sp tr no ot j) 3 [.int .i64 v]) (ZBh sp tr no ot j) = ZBh sp tr no (updF ot i v) j := by
 simp only [ZBh, updF, ZAL, setL, mrgL, ZBJ]
 by_cases h : j = i <;> simp [h]
theorem ZOc (sp tr no ot : Nat -> Int) (i : Nat) (a b c d : Int) (j : Nat) : mrgL (j = i) (ZAL (ZBh sp tr no ot j) 0 [.int .i64 a, .int .i64 b, .int .i64 c, .int .i64 d]) (ZBh sp tr no ot j) = ZBh (updF sp i a) (updF tr i b) (updF no i c) (updF ot i d) j := by
 simp only [ZBh, updF, ZAL, setL, mrgL, ZBJ]
 by_cases h : j = i <;> simp [h]
theorem ZPa (f : Nat -> Int) (i : Nat) : updF f i (f i) = f := by
 funext j
 simp only [updF]
 by_cases h : j = i <;> simp [h]
theorem ZNF (n E nt nw t ta : Nat) (tail : Int) (hs : Nat -> Int) (L : AL) (s : PS) (ht : t < n) (hta : ta < nt) (hnt : nt <= 64) (hn : n <= 64) (hE : E <= 8) (hnw : nw <= 4096) (htr : 0 <= L.tr t /\ L.tr t < E) :
  ZAH Tryz.prog 259 (ZLI n E nt nw tail hs t L s) 6 [.l (.p 0 0 0 0), .l (.p 4 4 t 0), .l (.s 5 1 0 E 0), .l (.v (.int .i64 ta))] fun x h k =>
   x = didO (abSr E nw tail t ta L s).1 /\ k = 6 /\ h = ZLI n E nt nw tail hs t (abSr E nw tail t ta L s).2.1 (abSr E nw tail t ta L s).2.2 := by
 obtain ⟨q, hq⟩ : ∃ q : Nat, L.tr t = (q : Int) := ⟨(L.tr t).toNat, by omega⟩
 have fa := ZDw n tail (abN E t (L.tr t))
 have h1 := ldS nt nw hs s ta (i64w (abA tail (abN E t (L.tr t)) + 2)) hta hnt hnw
 have hna : nadd 0 (L.tr t).toNat = (L.tr t).toNat := by simp [ZAI]
 refine sE Tryz.func259 ic259_eq [.ca 8 4] fun G hP hA => ?_
 unfold evF ic259 abSr
 by_cases ez : rdV nw (i64w (abA tail (abN E t (L.tr t)) + 2)) s = 0
 ·simp only [ez, decide_true, pick]
  conv => whnf
  (repeat (first | (refine mS ?_; conv => whnf) | rw [natI] | rw [ZAF] | ((first | refine ZAA hP fa ?_ | refine ZAB hP fa ?_ | refine ZAA hP h1 ?_ | refine ZAB hP h1 ?_); (conv => whnf); refine zA ?_; conv => whnf) | (refine arW ?_; conv => whnf)))
  rw [hna]
  conv => whnf
  (repeat (first | (refine mS ?_; conv => whnf) | rw [natI] | rw [ZAF] | ((first | refine ZAA hP fa ?_ | refine ZAB hP fa ?_ | refine ZAA hP h1 ?_ | refine ZAB hP h1 ?_); (conv => whnf); refine zA ?_; conv => whnf) | (refine arW ?_; conv => whnf)))
  (refine ZAC ?_; conv => whnf); refine ⟨rfl, rfl, rfl, ?_, ?_, rfl⟩
  ·rfl
  ·exact ⟨ZAD, ZAD, rfl, ZAD, ZAD, ⟨rfl, rfl, fun j hj => by simp only [Nat.zero_add, ZDT, ZDU, ZDV, ZDW, ZA8] <;> rfl⟩, trivial⟩
 by_cases el : L.tr t + 1 = (E : Int)
 ·simp only [ez, el, decide_true, decide_false, pick]
  conv => whnf
  (repeat (first | (refine mS ?_; conv => whnf) | rw [natI] | rw [ZAF] | ((first | refine ZAA hP fa ?_ | refine ZAB hP fa ?_ | refine ZAA hP h1 ?_ | refine ZAB hP h1 ?_); (conv => whnf); refine zA ?_; conv => whnf) | (refine arW ?_; conv => whnf)))
  rw [hna]
  conv => whnf
  (repeat (first | (refine mS ?_; conv => whnf) | rw [natI] | rw [ZAF] | ((first | refine ZAA hP fa ?_ | refine ZAB hP fa ?_ | refine ZAA hP h1 ?_ | refine ZAB hP h1 ?_); (conv => whnf); refine zA ?_; conv => whnf) | (refine arW ?_; conv => whnf)))
  (refine ZAC ?_; conv => whnf); refine ⟨rfl, rfl, rfl, ?_, ?_, rfl⟩
  ·rfl
  ·exact ⟨ZAD, ZAD, rfl, ZAD, ZAD, ⟨rfl, rfl, fun j hj => by simp only [Nat.zero_add, ZDT, ZDU, ZDV, ZDW, ZA8, el] <;> rfl⟩, trivial⟩
 ·simp only [ez, el, decide_false, pick]
  conv => whnf
  (repeat (first | (refine mS ?_; conv => whnf) | rw [natI] | rw [ZAF] | ((first | refine ZAA hP fa ?_ | refine ZAB hP fa ?_ | refine ZAA hP h1 ?_ | refine ZAB hP h1 ?_); (conv => whnf); refine zA ?_; conv => whnf) | (refine arW ?_; conv => whnf)))
  rw [hna]
  conv => whnf
  (repeat (first | (refine mS ?_; conv => whnf) | rw [natI] | rw [ZAF] | ((first | refine ZAA hP fa ?_ | refine ZAB hP fa ?_ | refine ZAA hP h1 ?_ | refine ZAB hP h1 ?_); (conv => whnf); refine zA ?_; conv => whnf) | (refine arW ?_; conv => whnf)))
  (refine ZAC ?_; conv => whnf); refine ⟨rfl, rfl, rfl, ?_, ?_, rfl⟩
  ·rfl
  ·exact ⟨ZAD, ZAD, rfl, ZAD, ZAD, ⟨rfl, rfl, fun j hj => by simp only [Nat.zero_add, ZDT, ZDU, ZDV, ZDW, ZA8] <;> rfl⟩, trivial⟩
theorem ZNG (n E nt nw t ta : Nat) (tail : Int) (hs : Nat -> Int) (late : Bool) (L : AL) (s : PS) (ht : t < n) (hta : ta < nt) (hnt : nt <= 64) (hn : n <= 64) (hE : E <= 8) (hnw : nw <= 4096) (htr : L.sp t = 0 -> 0 <= L.tr t /\ L.tr t < E) :
  ZAH Tryz.prog 255 (ZLI n E nt nw tail hs t L s) 6 [.l (.p 0 0 0 0), .l (.p 4 4 t 0), .l (.s 5 1 0 E 0), .l (.v (.int .i64 ta)), .l (.v (.bool late))] fun x h k =>
   x = didO (abLk E nw tail t ta late L s).1 /\ k = 6 /\ h = ZLI n E nt nw tail hs t (abLk E nw tail t ta late L s).2.1 (abLk E nw tail t ta late L s).2.2 := by
 have fno := ZDw n tail (L.no t)
 have fot := ZDw n tail (L.ot t)
 refine sE Tryz.func255 ic255_eq [.ca 10 4] fun G hP hA => ?_
 unfold evF ic255 abLk
 by_cases e0 : L.sp t = 0
 ·have h1 := ZNF n E nt nw t ta tail hs L s ht hta hnt hn hE hnw (htr e0)
  simp only [e0, decide_true, decide_false, pick, Bool.not_true, Bool.not_false, Bool.true_or, Bool.or_true, Bool.false_or, Bool.or_false, Bool.true_and, Bool.and_true, Bool.false_and, Bool.and_false, abNx]
  generalize abSr E nw tail t ta L s = r at h1 ⊢
  conv => whnf
  (repeat (first | (refine mS ?_; conv => whnf) | rw [natI] | rw [ZAF] | ((first | refine ZAA hP fno ?_ | refine ZAB hP fno ?_ | refine ZAA hP h1 ?_ | refine ZAB hP h1 ?_); (conv => whnf); refine zA ?_; conv => whnf) | (refine arW ?_; conv => whnf)))
  (refine ZAC ?_; conv => whnf); exact zF
 by_cases e1 : L.sp t = 1
 ·have h1 := stS nt nw hs s ta (i64w ((abA tail (L.no t)) + 2)) 1 hta hnt hnw
  simp only [Int.reduceEq, e0, e1, decide_true, decide_false, pick, Bool.not_true, Bool.not_false, Bool.true_or, Bool.or_true, Bool.false_or, Bool.or_false, Bool.true_and, Bool.and_true, Bool.false_and, Bool.and_false, abNx]
  conv => whnf
  (repeat (first | (refine mS ?_; conv => whnf) | rw [natI] | rw [ZAF] | ((first | refine ZAA hP fno ?_ | refine ZAB hP fno ?_ | refine ZAA hP h1 ?_ | refine ZAB hP h1 ?_); (conv => whnf); refine zA ?_; conv => whnf) | (refine arW ?_; conv => whnf)))
  (refine ZAC ?_; conv => whnf); refine ⟨rfl, rfl, rfl, ?_, ?_, rfl⟩
  ·rfl
  ·exact ⟨ZAD, ZAD, rfl, ZAD, ZAD, ⟨rfl, rfl, fun j hj => by simp only [Nat.zero_add, ZDT, ZDU, ZDV, ZDW, ZA8, e1] <;> rfl⟩, trivial⟩
 by_cases e2 : L.sp t = 2
 ·have h1 := stS nt nw hs s ta (abA tail (L.no t)) 0 hta hnt hnw
  simp only [Int.reduceEq, e0, e1, e2, decide_true, decide_false, pick, Bool.not_true, Bool.not_false, Bool.true_or, Bool.or_true, Bool.false_or, Bool.or_false, Bool.true_and, Bool.and_true, Bool.false_and, Bool.and_false, abNx]
  conv => whnf
  (repeat (first | (refine mS ?_; conv => whnf) | rw [natI] | rw [ZAF] | ((first | refine ZAA hP fno ?_ | refine ZAB hP fno ?_ | refine ZAA hP h1 ?_ | refine ZAB hP h1 ?_); (conv => whnf); refine zA ?_; conv => whnf) | (refine arW ?_; conv => whnf)))
  (refine ZAC ?_; conv => whnf); refine ⟨rfl, rfl, rfl, ?_, ?_, rfl⟩
  ·rfl
  ·exact ⟨ZAD, ZAD, rfl, ZAD, ZAD, ⟨rfl, rfl, fun j hj => by simp only [Nat.zero_add, ZDT, ZDU, ZDV, ZDW, ZA8, e2] <;> rfl⟩, trivial⟩
 by_cases e3 : L.sp t = 3
 ·have h1 := stS nt nw hs s ta (i64w ((abA tail (L.no t)) + 1)) 0 hta hnt hnw
  simp only [Int.reduceEq, e0, e1, e2, e3, decide_true, decide_false, pick, Bool.not_true, Bool.not_false, Bool.true_or, Bool.or_true, Bool.false_or, Bool.or_false, Bool.true_and, Bool.and_true, Bool.false_and, Bool.and_false, abNx]
  conv => whnf
  (repeat (first | (refine mS ?_; conv => whnf) | rw [natI] | rw [ZAF] | ((first | refine ZAA hP fno ?_ | refine ZAB hP fno ?_ | refine ZAA hP h1 ?_ | refine ZAB hP h1 ?_); (conv => whnf); refine zA ?_; conv => whnf) | (refine arW ?_; conv => whnf)))
  (refine ZAC ?_; conv => whnf); refine ⟨rfl, rfl, rfl, ?_, ?_, rfl⟩
  ·rfl
  ·exact ⟨ZAD, ZAD, rfl, ZAD, ZAD, ⟨rfl, rfl, fun j hj => by simp only [Nat.zero_add, ZDT, ZDU, ZDV, ZDW, ZA8, e3] <;> rfl⟩, trivial⟩
 by_cases e4 : L.sp t = 4
 ·have h1 := swS nt nw hs s ta tail (u32w (L.no t)) hta hnt hnw
  by_cases ez : i64w (rdV nw tail s) = 0
  ·have ez' : IntKind.i64.wrap (rdV nw tail s) = 0 := ez
   simp only [Int.reduceEq, e0, e1, e2, e3, e4, ez, decide_true, decide_false, pick, Bool.not_true, Bool.not_false, Bool.true_or, Bool.or_true, Bool.false_or, Bool.or_false, Bool.true_and, Bool.and_true, Bool.false_and, Bool.and_false, abNx]
   conv => whnf
   (repeat (first | (refine mS ?_; conv => whnf) | rw [natI] | rw [ZAF] | ((first | refine ZAA hP fno ?_ | refine ZAB hP fno ?_ | refine ZAA hP h1 ?_ | refine ZAB hP h1 ?_); (conv => whnf); refine zA ?_; conv => whnf) | (refine arW ?_; conv => whnf)))
   (refine ZAC ?_; conv => whnf); refine ⟨rfl, rfl, rfl, ?_, ?_, rfl⟩
   ·rfl
   ·exact ⟨ZAD, ZAD, rfl, ZAD, ZAD, ⟨rfl, rfl, fun j hj => by simp only [Nat.zero_add, ZDT, ZDU, ZDV, ZDW, ZA8, ez'] <;> rfl⟩, trivial⟩
  ·simp only [Int.reduceEq, e0, e1, e2, e3, e4, ez, decide_true, decide_false, pick, Bool.not_true, Bool.not_false, Bool.true_or, Bool.or_true, Bool.false_or, Bool.or_false, Bool.true_and, Bool.and_true, Bool.false_and, Bool.and_false, abNx]
   conv => whnf
   (repeat (first | (refine mS ?_; conv => whnf) | rw [natI] | rw [ZAF] | ((first | refine ZAA hP fno ?_ | refine ZAB hP fno ?_ | refine ZAA hP h1 ?_ | refine ZAB hP h1 ?_); (conv => whnf); refine zA ?_; conv => whnf) | (refine arW ?_; conv => whnf)))
   (refine ZAC ?_; conv => whnf); refine ⟨rfl, rfl, rfl, ?_, ?_, rfl⟩
   ·rfl
   ·exact ⟨ZAD, ZAD, rfl, ZAD, ZAD, ⟨rfl, rfl, fun j hj => by simp only [Nat.zero_add, ZDT, ZDU, ZDV, ZDW, ZA8] <;> rfl⟩, trivial⟩
 by_cases e5 : L.sp t = 5
 ·have h1 := stS nt nw hs s ta (i64w (abA tail (L.ot t) + 1)) (u32w (L.no t)) hta hnt hnw
  simp only [Int.reduceEq, e0, e1, e2, e3, e4, e5, decide_true, decide_false, pick, Bool.not_true, Bool.not_false, Bool.true_or, Bool.or_true, Bool.false_or, Bool.or_false, Bool.true_and, Bool.and_true, Bool.false_and, Bool.and_false, abNx]
  conv => whnf
  (repeat (first | (refine mS ?_; conv => whnf) | rw [natI] | rw [ZAF] | ((first | refine ZAA hP fno ?_ | refine ZAB hP fno ?_ | refine ZAA hP h1 ?_ | refine ZAB hP h1 ?_); (conv => whnf); refine zA ?_; conv => whnf) | ((first | refine ZAA hP fot ?_ | refine ZAB hP fot ?_); (conv => whnf); refine zA ?_; conv => whnf) | (refine arW ?_; conv => whnf)))
  (refine ZAC ?_; conv => whnf); refine ⟨rfl, rfl, rfl, ?_, ?_, rfl⟩
  ·rfl
  ·exact ⟨ZAD, ZAD, rfl, ZAD, ZAD, ⟨rfl, rfl, fun j hj => by simp only [Nat.zero_add, ZDT, ZDU, ZDV, ZDW, ZA8, e5] <;> rfl⟩, trivial⟩
 by_cases e6 : L.sp t = 6
 ·have h1 := ldS nt nw hs s ta (abA tail (L.no t)) hta hnt hnw
  by_cases ez : rdV nw (abA tail (L.no t)) s = 0
  ·cases late with
   | true =>
    simp only [Int.reduceEq, e0, e1, e2, e3, e4, e5, e6, ez, decide_true, decide_false, pick, Bool.not_true, Bool.not_false, Bool.true_or, Bool.or_true, Bool.false_or, Bool.or_false, Bool.true_and, Bool.and_true, Bool.false_and, Bool.and_false, abNx]
    conv => whnf
    (repeat (first | (refine mS ?_; conv => whnf) | rw [natI] | rw [ZAF] | ((first | refine ZAA hP fno ?_ | refine ZAB hP fno ?_ | refine ZAA hP h1 ?_ | refine ZAB hP h1 ?_); (conv => whnf); refine zA ?_; conv => whnf) | (refine arW ?_; conv => whnf)))
    (refine ZAC ?_; conv => whnf); refine ⟨rfl, rfl, rfl, ?_, ?_, rfl⟩
    ·rfl
    ·exact ⟨ZAD, ZAD, rfl, ZAD, ZAD, ⟨rfl, rfl, fun j hj => by simp only [Nat.zero_add, ZDT, ZDU, ZDV, ZDW, ZA8, e6] <;> rfl⟩, trivial⟩
   | false =>
    simp only [Int.reduceEq, e0, e1, e2, e3, e4, e5, e6, ez, decide_true, decide_false, pick, Bool.not_true, Bool.not_false, Bool.true_or, Bool.or_true, Bool.false_or, Bool.or_false, Bool.true_and, Bool.and_true, Bool.false_and, Bool.and_false, abNx]
    conv => whnf
    (repeat (first | (refine mS ?_; conv => whnf) | rw [natI] | rw [ZAF] | ((first | refine ZAA hP fno ?_ | refine ZAB hP fno ?_ | refine ZAA hP h1 ?_ | refine ZAB hP h1 ?_); (conv => whnf); refine zA ?_; conv => whnf) | (refine arW ?_; conv => whnf)))
    (refine ZAC ?_; conv => whnf); exact zF
  ·simp only [Int.reduceEq, e0, e1, e2, e3, e4, e5, e6, ez, decide_true, decide_false, pick, Bool.not_true, Bool.not_false, Bool.true_or, Bool.or_true, Bool.false_or, Bool.or_false, Bool.true_and, Bool.and_true, Bool.false_and, Bool.and_false, abNx]
   conv => whnf
   (repeat (first | (refine mS ?_; conv => whnf) | rw [natI] | rw [ZAF] | ((first | refine ZAA hP fno ?_ | refine ZAB hP fno ?_ | refine ZAA hP h1 ?_ | refine ZAB hP h1 ?_); (conv => whnf); refine zA ?_; conv => whnf) | (refine arW ?_; conv => whnf)))
   (refine ZAC ?_; conv => whnf); exact zF
 by_cases e7 : L.sp t = 7
 ·have h1 := caS nt nw hs s ta (abA tail (L.no t)) 0 2 hta hnt hnw
  cases ec : casB nw (abA tail (L.no t)) 0 s with
  | true =>
   rw [ec] at h1
   simp only [Int.reduceEq, e0, e1, e2, e3, e4, e5, e6, e7, ec, decide_true, decide_false, pick, Bool.not_true, Bool.not_false, Bool.true_or, Bool.or_true, Bool.false_or, Bool.or_false, Bool.true_and, Bool.and_true, Bool.false_and, Bool.and_false, abNx]
   conv => whnf
   (repeat (first | (refine mS ?_; conv => whnf) | rw [natI] | rw [ZAF] | ((first | refine ZAA hP fno ?_ | refine ZAB hP fno ?_ | refine ZAA hP h1 ?_ | refine ZAB hP h1 ?_); (conv => whnf); refine zA ?_; conv => whnf) | (refine arW ?_; conv => whnf)))
   (refine ZAC ?_; conv => whnf); exact zF
  | false =>
   rw [ec] at h1
   simp only [Int.reduceEq, e0, e1, e2, e3, e4, e5, e6, e7, ec, decide_true, decide_false, pick, Bool.not_true, Bool.not_false, Bool.true_or, Bool.or_true, Bool.false_or, Bool.or_false, Bool.true_and, Bool.and_true, Bool.false_and, Bool.and_false, abNx]
   conv => whnf
   (repeat (first | (refine mS ?_; conv => whnf) | rw [natI] | rw [ZAF] | ((first | refine ZAA hP fno ?_ | refine ZAB hP fno ?_ | refine ZAA hP h1 ?_ | refine ZAB hP h1 ?_); (conv => whnf); refine zA ?_; conv => whnf) | (refine arW ?_; conv => whnf)))
   (refine ZAC ?_; conv => whnf); exact zF
 ·simp only [e0, e1, e2, e3, e4, e5, e6, e7, decide_true, decide_false, pick, Bool.not_true, Bool.not_false, Bool.true_or, Bool.or_true, Bool.false_or, Bool.or_false, Bool.true_and, Bool.and_true, Bool.false_and, Bool.and_false, abNx]
  conv => whnf
  (repeat (first | (refine mS ?_; conv => whnf) | rw [natI] | rw [ZAF] | ((first | refine ZAA hP fno ?_ | refine ZAB hP fno ?_); (conv => whnf); refine zA ?_; conv => whnf) | (refine arW ?_; conv => whnf)))
  (refine ZAC ?_; conv => whnf); refine ⟨rfl, rfl, rfl, ?_, ?_, rfl⟩
  ·rfl
  ·exact ⟨ZAD, ZAD, rfl, ZAD, ZAD, ⟨rfl, rfl, fun j hj => by simp only [Nat.zero_add, ZDT, ZDU, ZDV, ZDW, ZA8] <;> rfl⟩, trivial⟩
theorem ZNH (n E nt nw t ta : Nat) (tail : Int) (hs : Nat -> Int) (L : AL) (s : PS) (ht : t < n) (hta : ta < nt) (hnt : nt <= 64) (hn : n <= 64) (hnw : nw <= 4096) :
  ZAH Tryz.prog 257 (ZEx n E nt nw tail hs L s) 5 [.l (.p 0 0 0 0), .l (.p 4 4 t 0), .l (.v (.int .i64 ta))] fun x h k =>
   x = sInt .i64 (abUl nw tail t ta L s).1 /\ k = 5 /\ h = ZEx n E nt nw tail hs (abUl nw tail t ta L s).2.1 (abUl nw tail t ta L s).2.2 := by
 have fno := ZDw n tail (L.no t)
 have fot := ZDw n tail (L.ot t)
 refine sE Tryz.func257 ic257_eq [.t 6] fun G hP hA => ?_
 unfold evF ic257 abUl
 by_cases e0 : L.sp t = 0
 ·have h1 := ldS nt nw hs s ta (i64w ((abA tail (L.no t)) + 1)) hta hnt hnw
  by_cases ez : i64w (rdV nw (i64w ((abA tail (L.no t)) + 1)) s) = 0
  ·have ez' : IntKind.i64.wrap (rdV nw (i64w ((abA tail (L.no t)) + 1)) s) = 0 := ez
   simp only [e0, ez, decide_true, decide_false, pick, Bool.not_true, Bool.not_false, Bool.true_or, Bool.or_true, Bool.false_or, Bool.or_false, Bool.true_and, Bool.and_true, Bool.false_and, Bool.and_false, abNx]
   conv => whnf
   (repeat (first | (refine mS ?_; conv => whnf) | rw [natI] | rw [ZAF] | ((first | refine ZAA hP fno ?_ | refine ZAB hP fno ?_ | refine ZAA hP h1 ?_ | refine ZAB hP h1 ?_); (conv => whnf); refine zA ?_; conv => whnf) | (refine arW ?_; conv => whnf)))
   (refine ZAC ?_; conv => whnf); refine ⟨rfl, rfl, rfl, ?_, ?_, rfl⟩
   ·rfl
   ·exact ⟨ZAD, rfl, ZAD, ZAD, ⟨rfl, rfl, fun j hj => by simp only [Nat.zero_add, ZDT, ZDU, ZDV, ZDW, ZA8, ez'] <;> rfl⟩, trivial⟩
  ·have ez' : ¬ IntKind.i64.wrap (rdV nw (i64w ((abA tail (L.no t)) + 1)) s) = 0 := ez
   simp only [e0, ez, decide_true, decide_false, pick, Bool.not_true, Bool.not_false, Bool.true_or, Bool.or_true, Bool.false_or, Bool.or_false, Bool.true_and, Bool.and_true, Bool.false_and, Bool.and_false, abNx]
   conv => whnf
   (repeat (first | (refine mS ?_; conv => whnf) | rw [natI] | rw [ZAF] | ((first | refine ZAA hP fno ?_ | refine ZAB hP fno ?_ | refine ZAA hP h1 ?_ | refine ZAB hP h1 ?_); (conv => whnf); refine zA ?_; conv => whnf) | (refine arW ?_; conv => whnf)))
   (refine ZAC ?_; conv => whnf); refine ⟨rfl, rfl, rfl, ?_, ?_, rfl⟩
   ·rfl
   ·exact ⟨ZAD, rfl, ZAD, ZAD, ⟨rfl, rfl, fun j hj => by simp only [Nat.zero_add, ZDT, ZDU, ZDV, ZDW, ZA8] <;> rfl⟩, trivial⟩
 by_cases e2 : L.sp t = 2
 ·have h1 := ldS nt nw hs s ta (i64w ((abA tail (L.no t)) + 1)) hta hnt hnw
  by_cases ez : i64w (rdV nw (i64w ((abA tail (L.no t)) + 1)) s) = 0
  ·have ez' : IntKind.i64.wrap (rdV nw (i64w ((abA tail (L.no t)) + 1)) s) = 0 := ez
   simp only [Int.reduceEq, e0, e2, ez, decide_true, decide_false, pick, Bool.not_true, Bool.not_false, Bool.true_or, Bool.or_true, Bool.false_or, Bool.or_false, Bool.true_and, Bool.and_true, Bool.false_and, Bool.and_false, abNx]
   conv => whnf
   (repeat (first | (refine mS ?_; conv => whnf) | rw [natI] | rw [ZAF] | ((first | refine ZAA hP fno ?_ | refine ZAB hP fno ?_ | refine ZAA hP h1 ?_ | refine ZAB hP h1 ?_); (conv => whnf); refine zA ?_; conv => whnf) | (refine arW ?_; conv => whnf)))
   (refine ZAC ?_; conv => whnf); refine ⟨rfl, rfl, rfl, ?_, ?_, rfl⟩
   ·rfl
   ·exact ⟨ZAD, rfl, ZAD, ZAD, ⟨rfl, rfl, fun j hj => by simp only [Nat.zero_add, ZDT, ZDU, ZDV, ZDW, ZA8, ez'] <;> rfl⟩, trivial⟩
  ·have ez' : ¬ IntKind.i64.wrap (rdV nw (i64w ((abA tail (L.no t)) + 1)) s) = 0 := ez
   simp only [Int.reduceEq, e0, e2, ez, decide_true, decide_false, pick, Bool.not_true, Bool.not_false, Bool.true_or, Bool.or_true, Bool.false_or, Bool.or_false, Bool.true_and, Bool.and_true, Bool.false_and, Bool.and_false, abNx]
   conv => whnf
   (repeat (first | (refine mS ?_; conv => whnf) | rw [natI] | rw [ZAF] | ((first | refine ZAA hP fno ?_ | refine ZAB hP fno ?_ | refine ZAA hP h1 ?_ | refine ZAB hP h1 ?_); (conv => whnf); refine zA ?_; conv => whnf) | (refine arW ?_; conv => whnf)))
   (refine ZAC ?_; conv => whnf); refine ⟨rfl, rfl, rfl, ?_, ?_, rfl⟩
   ·rfl
   ·exact ⟨ZAD, rfl, ZAD, ZAD, ⟨rfl, rfl, fun j hj => by simp only [Nat.zero_add, ZDT, ZDU, ZDV, ZDW, ZA8] <;> rfl⟩, trivial⟩
 by_cases e1 : L.sp t = 1
 ·have h1 := caS nt nw hs s ta tail (u32w (L.no t)) 0 hta hnt hnw
  cases ec : casB nw tail (u32w (L.no t)) s with
  | true =>
   rw [ec] at h1
   simp only [Int.reduceEq, e0, e2, e1, ec, decide_true, decide_false, pick, Bool.not_true, Bool.not_false, Bool.true_or, Bool.or_true, Bool.false_or, Bool.or_false, Bool.true_and, Bool.and_true, Bool.false_and, Bool.and_false, abNx]
   conv => whnf
   (repeat (first | (refine mS ?_; conv => whnf) | rw [natI] | rw [ZAF] | ((first | refine ZAA hP fno ?_ | refine ZAB hP fno ?_ | refine ZAA hP h1 ?_ | refine ZAB hP h1 ?_); (conv => whnf); refine zA ?_; conv => whnf) | ((first | refine ZAA hP fot ?_ | refine ZAB hP fot ?_); (conv => whnf); refine zA ?_; conv => whnf) | (refine arW ?_; conv => whnf)))
   (refine ZAC ?_; conv => whnf); refine ⟨rfl, rfl, rfl, ?_, ?_, rfl⟩
   ·rfl
   ·exact ⟨ZAD, rfl, ZAD, ZAD, ⟨rfl, rfl, fun j hj => by simp only [Nat.zero_add, ZDT, ZDU, ZDV, ZDW, ZA8] <;> rfl⟩, trivial⟩
  | false =>
   rw [ec] at h1
   simp only [Int.reduceEq, e0, e2, e1, ec, decide_true, decide_false, pick, Bool.not_true, Bool.not_false, Bool.true_or, Bool.or_true, Bool.false_or, Bool.or_false, Bool.true_and, Bool.and_true, Bool.false_and, Bool.and_false, abNx]
   conv => whnf
   (repeat (first | (refine mS ?_; conv => whnf) | rw [natI] | rw [ZAF] | ((first | refine ZAA hP fno ?_ | refine ZAB hP fno ?_ | refine ZAA hP h1 ?_ | refine ZAB hP h1 ?_); (conv => whnf); refine zA ?_; conv => whnf) | ((first | refine ZAA hP fot ?_ | refine ZAB hP fot ?_); (conv => whnf); refine zA ?_; conv => whnf) | (refine arW ?_; conv => whnf)))
   (refine ZAC ?_; conv => whnf); refine ⟨rfl, rfl, rfl, ?_, ?_, rfl⟩
   ·rfl
   ·exact ⟨ZAD, rfl, ZAD, ZAD, ⟨rfl, rfl, fun j hj => by simp only [Nat.zero_add, ZDT, ZDU, ZDV, ZDW, ZA8] <;> rfl⟩, trivial⟩
 by_cases e3 : L.sp t = 3
 ·have h1 := caS nt nw hs s ta (abA tail (L.ot t)) 0 1 hta hnt hnw
  cases ec : casB nw (abA tail (L.ot t)) 0 s with
  | true =>
   rw [ec] at h1
   simp only [Int.reduceEq, e0, e2, e1, e3, ec, decide_true, decide_false, pick, Bool.not_true, Bool.not_false, Bool.true_or, Bool.or_true, Bool.false_or, Bool.or_false, Bool.true_and, Bool.and_true, Bool.false_and, Bool.and_false, abNx]
   conv => whnf
   (repeat (first | (refine mS ?_; conv => whnf) | rw [natI] | rw [ZAF] | ((first | refine ZAA hP fno ?_ | refine ZAB hP fno ?_ | refine ZAA hP h1 ?_ | refine ZAB hP h1 ?_); (conv => whnf); refine zA ?_; conv => whnf) | ((first | refine ZAA hP fot ?_ | refine ZAB hP fot ?_); (conv => whnf); refine zA ?_; conv => whnf) | (refine arW ?_; conv => whnf)))
   (refine ZAC ?_; conv => whnf); refine ⟨rfl, rfl, rfl, ?_, ?_, rfl⟩
   ·rfl
   ·exact ⟨ZAD, rfl, ZAD, ZAD, ⟨rfl, rfl, fun j hj => by simp only [Nat.zero_add, ZDT, ZDU, ZDV, ZDW, ZA8] <;> rfl⟩, trivial⟩
  | false =>
   rw [ec] at h1
   simp only [Int.reduceEq, e0, e2, e1, e3, ec, decide_true, decide_false, pick, Bool.not_true, Bool.not_false, Bool.true_or, Bool.or_true, Bool.false_or, Bool.or_false, Bool.true_and, Bool.and_true, Bool.false_and, Bool.and_false, abNx]
   conv => whnf
   (repeat (first | (refine mS ?_; conv => whnf) | rw [natI] | rw [ZAF] | ((first | refine ZAA hP fno ?_ | refine ZAB hP fno ?_ | refine ZAA hP h1 ?_ | refine ZAB hP h1 ?_); (conv => whnf); refine zA ?_; conv => whnf) | ((first | refine ZAA hP fot ?_ | refine ZAB hP fot ?_); (conv => whnf); refine zA ?_; conv => whnf) | (refine arW ?_; conv => whnf)))
   (refine ZAC ?_; conv => whnf); refine ⟨rfl, rfl, rfl, ?_, ?_, rfl⟩
   ·rfl
   ·exact ⟨ZAD, rfl, ZAD, ZAD, ⟨rfl, rfl, fun j hj => by simp only [Nat.zero_add, ZDT, ZDU, ZDV, ZDW, ZA8] <;> rfl⟩, trivial⟩
 by_cases e4 : L.sp t = 4
 ·have h1 := stS nt nw hs s ta (i64w ((abA tail (L.no t)) + 2)) 0 hta hnt hnw
  simp only [Int.reduceEq, e0, e2, e1, e3, e4, decide_true, decide_false, pick, Bool.not_true, Bool.not_false, Bool.true_or, Bool.or_true, Bool.false_or, Bool.or_false, Bool.true_and, Bool.and_true, Bool.false_and, Bool.and_false, abNx]
  conv => whnf
  (repeat (first | (refine mS ?_; conv => whnf) | rw [natI] | rw [ZAF] | ((first | refine ZAA hP fno ?_ | refine ZAB hP fno ?_ | refine ZAA hP h1 ?_ | refine ZAB hP h1 ?_); (conv => whnf); refine zA ?_; conv => whnf) | (refine arW ?_; conv => whnf)))
  (refine ZAC ?_; conv => whnf); refine ⟨rfl, rfl, rfl, ?_, ?_, rfl⟩
  ·rfl
  ·exact ⟨ZAD, rfl, ZAD, ZAD, ⟨rfl, rfl, fun j hj => by simp only [Nat.zero_add, ZDT, ZDU, ZDV, ZDW, ZA8, ZOc] <;> rfl⟩, trivial⟩
 by_cases e5 : L.sp t = 5
 ·have h1 := stS nt nw hs s ta (i64w ((abA tail (L.no t)) + 2)) 0 hta hnt hnw
  simp only [Int.reduceEq, e0, e2, e1, e3, e4, e5, decide_true, decide_false, pick, Bool.not_true, Bool.not_false, Bool.true_or, Bool.or_true, Bool.false_or, Bool.or_false, Bool.true_and, Bool.and_true, Bool.false_and, Bool.and_false, abNx]
  conv => whnf
  (repeat (first | (refine mS ?_; conv => whnf) | rw [natI] | rw [ZAF] | ((first | refine ZAA hP fno ?_ | refine ZAB hP fno ?_ | refine ZAA hP h1 ?_ | refine ZAB hP h1 ?_); (conv => whnf); refine zA ?_; conv => whnf) | (refine arW ?_; conv => whnf)))
  (refine ZAC ?_; conv => whnf); exact zF
 ·simp only [e0, e2, e1, e3, e4, e5, decide_true, decide_false, pick, Bool.not_true, Bool.not_false, Bool.true_or, Bool.or_true, Bool.false_or, Bool.or_false, Bool.true_and, Bool.and_true, Bool.false_and, Bool.and_false, abNx]
  conv => whnf
  (repeat (first | (refine mS ?_; conv => whnf) | rw [natI] | rw [ZAF] | ((first | refine ZAA hP fno ?_ | refine ZAB hP fno ?_); (conv => whnf); refine zA ?_; conv => whnf) | (refine arW ?_; conv => whnf)))
  (refine ZAC ?_; conv => whnf); exact zF
theorem ZNI (n E nt nw t ta : Nat) (tail now : Int) (hs : Nat -> Int) (L : AL) (s : PS) (ht : t < n) (hta : ta < nt) (hnt : nt <= 64) (hn : n <= 64) (hE : E <= 8) (hnw : nw <= 4096) (hok : abOk n E L) :
  ZAH Tryz.prog 252 (ZEx n E nt nw tail hs L s) 5 [.l (.p 0 0 0 0), .l (.v (.int .i64 t)), .l (.v (.int .i64 ta)), .l (.v (.int .i64 now))] fun x h k =>
   x = didO (ZIq t (ZLp E nw tail t ta now L s)).1 /\ k = 5 /\ h = ZEx n E nt nw tail hs (ZIq t (ZLp E nw tail t ta now L s)).2.1 (ZIq t (ZLp E nw tail t ta now L s)).2.2 := by
 have hst := ZBC n L.ss.st L.ss.dl true false t ht hn
 have hdl := ZFp n L.ss.st L.ss.dl true false t
 have hin : inW n (t : Int) = true := by simp [inW]; omega
 simp only [dlV, hin, pick, Int.toNat_natCast] at hdl
 have hrow := ZIp n E t ht hn hE
 refine sE Tryz.func252 ic252_eq [.ca 8 4] fun G hP hA => ?_
 unfold evF ic252 ZLp ZIq
 by_cases e1 : L.ss.st t = 1
 ·rw [e1] at hst
  have hlk := fun late => ZNG n E nt nw t ta tail hs late L s ht hta hnt hn hE hnw (hok t ht e1)
  simp only [e1, decide_true, pick]
  by_cases d0 : 0 <= L.ss.dl t
  ·have hlk := hlk (decide (L.ss.dl t <= now))
   simp only [ZLJ, d0, decide_true, Bool.true_and]
   generalize abLk E nw tail t ta (decide (L.ss.dl t <= now)) L s = r at hlk ⊢
   have hen := ZAa n r.2.1.ss.st r.2.1.ss.dl true false t r.1.e ht hn
   cases eb : enB r.2.1.ss.st t r.1.e with
   | true =>
    rw [eb] at hen
    simp only [pick]
    conv => whnf
    (repeat (first | (refine mS ?_; conv => whnf) | rw [natI] | rw [ZAF] | ((first | refine ZAA hP hst ?_ | refine ZAB hP hst ?_ | refine ZAA hP hdl ?_ | refine ZAB hP hdl ?_ | refine ZAA hP hrow ?_ | refine ZAB hP hrow ?_ | refine ZAA hP hlk ?_ | refine ZAB hP hlk ?_ | refine ZAA hP hen ?_ | refine ZAB hP hen ?_); (conv => whnf); refine zA ?_; conv => whnf) | (refine arW ?_; conv => whnf)))
    (refine ZAC ?_; conv => whnf); refine ⟨rfl, rfl, rfl, ?_, ?_, rfl⟩
    ·rfl
    ·exact ⟨ZAD, rfl, ZAD, ZAD, ⟨rfl, rfl, fun j hj => by simp only [Nat.zero_add, ZOc]; rw [ZPa]⟩, trivial⟩
   | false =>
    rw [eb] at hen
    simp only [pick]
    conv => whnf
    (repeat (first | (refine mS ?_; conv => whnf) | rw [natI] | rw [ZAF] | ((first | refine ZAA hP hst ?_ | refine ZAB hP hst ?_ | refine ZAA hP hdl ?_ | refine ZAB hP hdl ?_ | refine ZAA hP hrow ?_ | refine ZAB hP hrow ?_ | refine ZAA hP hlk ?_ | refine ZAB hP hlk ?_ | refine ZAA hP hen ?_ | refine ZAB hP hen ?_); (conv => whnf); refine zA ?_; conv => whnf) | (refine arW ?_; conv => whnf)))
    (refine ZAC ?_; conv => whnf); exact zF
  ·have hlk := hlk false
   simp only [ZLJ, d0, decide_false, Bool.false_and]
   generalize abLk E nw tail t ta false L s = r at hlk ⊢
   have hen := ZAa n r.2.1.ss.st r.2.1.ss.dl true false t r.1.e ht hn
   cases eb : enB r.2.1.ss.st t r.1.e with
   | true =>
    rw [eb] at hen
    simp only [pick]
    conv => whnf
    (repeat (first | (refine mS ?_; conv => whnf) | rw [natI] | rw [ZAF] | ((first | refine ZAA hP hst ?_ | refine ZAB hP hst ?_ | refine ZAA hP hdl ?_ | refine ZAB hP hdl ?_ | refine ZAA hP hrow ?_ | refine ZAB hP hrow ?_ | refine ZAA hP hlk ?_ | refine ZAB hP hlk ?_ | refine ZAA hP hen ?_ | refine ZAB hP hen ?_); (conv => whnf); refine zA ?_; conv => whnf) | (refine arW ?_; conv => whnf)))
    (refine ZAC ?_; conv => whnf); refine ⟨rfl, rfl, rfl, ?_, ?_, rfl⟩
    ·rfl
    ·exact ⟨ZAD, rfl, ZAD, ZAD, ⟨rfl, rfl, fun j hj => by simp only [Nat.zero_add, ZOc]; rw [ZPa]⟩, trivial⟩
   | false =>
    rw [eb] at hen
    simp only [pick]
    conv => whnf
    (repeat (first | (refine mS ?_; conv => whnf) | rw [natI] | rw [ZAF] | ((first | refine ZAA hP hst ?_ | refine ZAB hP hst ?_ | refine ZAA hP hdl ?_ | refine ZAB hP hdl ?_ | refine ZAA hP hrow ?_ | refine ZAB hP hrow ?_ | refine ZAA hP hlk ?_ | refine ZAB hP hlk ?_ | refine ZAA hP hen ?_ | refine ZAB hP hen ?_); (conv => whnf); refine zA ?_; conv => whnf) | (refine arW ?_; conv => whnf)))
    (refine ZAC ?_; conv => whnf); exact zF
 by_cases e3 : L.ss.st t = 3
 ·rw [e3] at hst
  have hul := ZNH n E nt nw t ta tail hs L s ht hta hnt hn hnw
  simp only [Int.reduceEq, e3, decide_true, decide_false, pick]
  generalize abUl nw tail t ta L s = r at hul ⊢
  have hen := ZAa n r.2.1.ss.st r.2.1.ss.dl true false t r.1 ht hn
  cases eb : enB r.2.1.ss.st t r.1 with
  | true =>
   rw [eb] at hen
   simp only [pick, evD, eb]
   conv => whnf
   (repeat (first | (refine mS ?_; conv => whnf) | rw [natI] | rw [ZAF] | ((first | refine ZAA hP hst ?_ | refine ZAB hP hst ?_ | refine ZAA hP hul ?_ | refine ZAB hP hul ?_ | refine ZAA hP hen ?_ | refine ZAB hP hen ?_); (conv => whnf); refine zA ?_; conv => whnf) | (refine arW ?_; conv => whnf)))
   (refine ZAC ?_; conv => whnf); refine ⟨rfl, rfl, rfl, ?_, ?_, rfl⟩
   ·rfl
   ·exact ⟨ZAD, rfl, ZAD, ZAD, ⟨rfl, rfl, fun j hj => by simp only [Nat.zero_add, ZOc]; rw [ZPa]⟩, trivial⟩
  | false =>
   rw [eb] at hen
   simp only [pick, evD, eb]
   conv => whnf
   (repeat (first | (refine mS ?_; conv => whnf) | rw [natI] | rw [ZAF] | ((first | refine ZAA hP hst ?_ | refine ZAB hP hst ?_ | refine ZAA hP hul ?_ | refine ZAB hP hul ?_ | refine ZAA hP hen ?_ | refine ZAB hP hen ?_); (conv => whnf); refine zA ?_; conv => whnf) | (refine arW ?_; conv => whnf)))
   (refine ZAC ?_; conv => whnf); exact zF
 ·have hen := ZAa n L.ss.st L.ss.dl true false t 0 ht hn
  have eb : enB L.ss.st t 0 = false := by simp [enB, ZDv, pick, e1, e3]
  rw [eb] at hen
  simp only [e1, e3, eb, decide_false, pick, evD]
  conv => whnf
  (repeat (first | (refine mS ?_; conv => whnf) | rw [natI] | rw [ZAF] | ((first | refine ZAA hP hst ?_ | refine ZAB hP hst ?_ | refine ZAA hP hen ?_ | refine ZAB hP hen ?_); (conv => whnf); refine zA ?_; conv => whnf) | (refine arW ?_; conv => whnf)))
  (refine ZAC ?_; conv => whnf); exact zF
theorem ZFe (n : Nat) (st dl : Nat -> Int) (tm pr : Bool) (t d : Int) (hn : n <= 64) : ZAH Tryz.prog 210 [(0, some (ZBe n st dl tm pr))] 1 [.l (.p 0 0 0 0), .l (.v (.int .i64 t)), .l (.v (.int .i64 d))] fun x h k => x = sInt .i64 (lkE n st tm t d) /\ k = 1 /\ h = [(0, some (ZBe n (lkSt n st tm t d) (lkDl n st dl tm t d) tm pr))] := by
 have hth := ZCi n st dl tm pr t
 refine sG (ZAf (ZBa n st dl tm pr) 2 0 (by omega)) Tryz.func210 ic210_eq [.t 6] fun G hP hA => ?_
 unfold evF ic210 lkSt lkDl
 rcases ZAt n t with ⟨hb, i, hi, rfl⟩ | ⟨hb, ho⟩
 ·rw [hb] at hth
  by_cases h1 : d < -1
  ·have e : lkE n st tm i d = 1 := by simp [lkE, hb, h1, pick]
   simp only [e, show ¬ (1 : Int) = 0 by omega, decide_false, pick]
   conv => whnf
   (repeat (first | (refine mS ?_; conv => whnf) | rw [natI] | rw [ZAF] | ((first | refine ZAA hP hth ?_ | refine ZAB hP hth ?_); (conv => whnf); refine zA ?_; conv => whnf) | (refine arW ?_; conv => whnf)))
   (refine ZAG (H := (ZBa n st dl tm pr)) (np := 2) 0 0 (Nat.le_of_ble_eq_true rfl) ?_; conv => whnf); (refine zK ?_)
   (refine ZAC ?_; conv => whnf); exact zF
  by_cases h2 : 0 <= d
  ·cases tm with
   | false =>
    have e : lkE n st false i d = 1 := by simp [lkE, hb, h2, pick]
    simp only [e, show ¬ (1 : Int) = 0 by omega, decide_false, pick]
    conv => whnf
    (repeat (first | (refine mS ?_; conv => whnf) | rw [natI] | rw [ZAF] | ((first | refine ZAA hP hth ?_ | refine ZAB hP hth ?_); (conv => whnf); refine zA ?_; conv => whnf) | (refine arW ?_; conv => whnf)))
    (refine ZAG (H := (ZBa n st dl false pr)) (np := 2) 0 0 (Nat.le_of_ble_eq_true rfl) ?_; conv => whnf); (refine zK ?_)
    (refine ZAC ?_; conv => whnf); exact zF
   | true =>
    by_cases h3 : st i = 0
    ·have e : lkE n st true i d = 0 := by simp [lkE, hb, h1, h3, pick]
     simp only [e, decide_true, pick]
     conv => whnf
     (repeat (first | (refine mS ?_; conv => whnf) | rw [natI] | rw [ZAF] | ((first | refine ZAA hP hth ?_ | refine ZAB hP hth ?_); (conv => whnf); refine zA ?_; conv => whnf) | (refine arW ?_; conv => whnf)))
     (refine ZAG (H := (ZBa n (updF st i 1) (updF dl i d) true pr)) (np := 2) 0 0 (Nat.le_of_ble_eq_true rfl) ?_; conv => whnf); (refine ⟨⟨rfl, by omega, rfl, rfl, ?_, rfl⟩, ?_⟩)
     ·exact ⟨rfl, ⟨rfl, rfl, fun j hj => updS st dl i 1 d j⟩, trivial⟩
     conv => whnf
     (refine ZAC ?_; conv => whnf); exact zF
    ·have e : lkE n st true i d = 2 := by simp [lkE, hb, h1, h3, pick]
     simp only [e, show ¬ (2 : Int) = 0 by omega, decide_false, pick]
     conv => whnf
     (repeat (first | (refine mS ?_; conv => whnf) | rw [natI] | rw [ZAF] | ((first | refine ZAA hP hth ?_ | refine ZAB hP hth ?_); (conv => whnf); refine zA ?_; conv => whnf) | (refine arW ?_; conv => whnf)))
     (refine ZAG (H := (ZBa n st dl true pr)) (np := 2) 0 0 (Nat.le_of_ble_eq_true rfl) ?_; conv => whnf); (refine zK ?_)
     (refine ZAC ?_; conv => whnf); exact zF
  ·by_cases h3 : st i = 0
   ·have e : lkE n st tm i d = 0 := by simp [lkE, hb, h1, h2, h3, pick]
    simp only [e, decide_true, pick]
    conv => whnf
    (repeat (first | (refine mS ?_; conv => whnf) | rw [natI] | rw [ZAF] | ((first | refine ZAA hP hth ?_ | refine ZAB hP hth ?_); (conv => whnf); refine zA ?_; conv => whnf) | (refine arW ?_; conv => whnf)))
    (refine ZAG (H := (ZBa n (updF st i 1) (updF dl i d) tm pr)) (np := 2) 0 0 (Nat.le_of_ble_eq_true rfl) ?_; conv => whnf); (refine ⟨⟨rfl, by omega, rfl, rfl, ?_, rfl⟩, ?_⟩)
    ·exact ⟨rfl, ⟨rfl, rfl, fun j hj => updS st dl i 1 d j⟩, trivial⟩
    conv => whnf
    (refine ZAC ?_; conv => whnf); exact zF
   ·have e : lkE n st tm i d = 2 := by simp [lkE, hb, h1, h2, h3, pick]
    simp only [e, show ¬ (2 : Int) = 0 by omega, decide_false, pick]
    conv => whnf
    (repeat (first | (refine mS ?_; conv => whnf) | rw [natI] | rw [ZAF] | ((first | refine ZAA hP hth ?_ | refine ZAB hP hth ?_); (conv => whnf); refine zA ?_; conv => whnf) | (refine arW ?_; conv => whnf)))
    (refine ZAG (H := (ZBa n st dl tm pr)) (np := 2) 0 0 (Nat.le_of_ble_eq_true rfl) ?_; conv => whnf); (refine zK ?_)
    (refine ZAC ?_; conv => whnf); exact zF
 ·rw [hb] at hth
  have e : lkE n st tm t d = 1 := by simp [lkE, hb, pick]
  simp only [e, show ¬ (1 : Int) = 0 by omega, decide_false, pick]
  conv => whnf
  (repeat (first | (refine mS ?_; conv => whnf) | rw [natI] | rw [ZAF] | ((first | refine ZAA hP hth ?_ | refine ZAB hP hth ?_); (conv => whnf); refine zA ?_; conv => whnf) | (refine arW ?_; conv => whnf)))
  (refine ZAG (H := (ZBa n st dl tm pr)) (np := 2) 0 0 (Nat.le_of_ble_eq_true rfl) ?_; conv => whnf); (refine zK ?_)
  (refine ZAC ?_; conv => whnf); exact zF
theorem ZEy (n : Nat) (st dl : Nat -> Int) (tm pr : Bool) (t : Int) (hn : n <= 64) : ZAH Tryz.prog 217 (ZBa n st dl tm pr) 2 [.l (.p 0 0 0 0), .l (.v (.int .i64 t))] fun x h k => x = sInt .i64 (hoE n st t) /\ k = 2 /\ h = ZBa n st dl tm pr := by
 have hth := ZCi n st dl tm pr t
 refine sE Tryz.func217 ic217_eq [.t 4] fun G hP hA => ?_
 unfold evF ic217
 rcases ZAt n t with ⟨hb, i, hi, rfl⟩ | ⟨hb, ho⟩
 ·rw [hb] at hth
  by_cases h0 : st i = 0
  ·have e : hoE n st i = 3 := by simp [hoE, hb, h0, pick]
   rw [e]
   conv => whnf
   (repeat (first | (refine mS ?_; conv => whnf) | rw [natI] | rw [ZAF] | ((first | refine ZAA hP hth ?_ | refine ZAB hP hth ?_); (conv => whnf); refine zA ?_; conv => whnf) | (refine arW ?_; conv => whnf)))
   (refine ZAC ?_; conv => whnf); exact zF
  by_cases h2 : st i = 2
  ·have e : hoE n st i = 0 := by simp [hoE, hb, h2, pick]
   rw [e]
   conv => whnf
   (repeat (first | (refine mS ?_; conv => whnf) | rw [natI] | rw [ZAF] | ((first | refine ZAA hP hth ?_ | refine ZAB hP hth ?_); (conv => whnf); refine zA ?_; conv => whnf) | (refine arW ?_; conv => whnf)))
   (refine ZAC ?_; conv => whnf); exact zF
  ·have e : hoE n st i = 2 := by simp [hoE, hb, h0, h2, pick]
   rw [e]
   conv => whnf
   (repeat (first | (refine mS ?_; conv => whnf) | rw [natI] | rw [ZAF] | ((first | refine ZAA hP hth ?_ | refine ZAB hP hth ?_); (conv => whnf); refine zA ?_; conv => whnf) | (refine arW ?_; conv => whnf)))
   (refine ZAC ?_; conv => whnf); exact zF
 ·rw [hb] at hth
  have e : hoE n st t = 1 := by simp [hoE, hb, pick]
  rw [e]
  conv => whnf
  (repeat (first | (refine mS ?_; conv => whnf) | rw [natI] | rw [ZAF] | ((first | refine ZAA hP hth ?_ | refine ZAB hP hth ?_); (conv => whnf); refine zA ?_; conv => whnf) | (refine arW ?_; conv => whnf)))
  (refine ZAC ?_; conv => whnf); exact zF
theorem ZQg (f g : Nat -> Int) (i : Nat) (u : Int) (j : Nat) : mrgL (j = i) (ZAL (ZFR f g j) 0 [.int .i64 u]) (ZFR f g j) = ZFR (updF f i u) g j := by
 simp only [ZFR, updF, ZAL, setL, mrgL, ZBJ]
 by_cases h : j = i <;> simp [h]
theorem ZEP (n : Nat) (st dl : Nat -> Int) (tm pr : Bool) (t : Int) (hn : n <= 64) : ZAH Tryz.prog 214 [(0, some (ZBe n st dl tm pr))] 1 [.l (.p 0 0 0 0), .l (.v (.int .i64 t))] fun x h k => x = sInt .i64 (hoE n st t) /\ k = 1 /\ h = [(0, some (ZBe n (ulSt n st t 3) dl tm pr))] := by
 have hho := ZEy n st dl tm pr t hn
 refine sG (ZAf (ZBa n st dl tm pr) 2 0 (by omega)) Tryz.func214 ic214_eq [.t 4] fun G hP hA => ?_
 unfold evF ic214 ulSt
 by_cases e : hoE n st t = 0
 ·obtain ⟨hb, hs⟩ := ZQc e
  obtain ⟨_, i, hi, rfl⟩ | ⟨hb', _⟩ := ZAt n t
  ·simp only [e, decide_true, pick, Int.toNat_natCast]
   rw [e] at hho
   conv => whnf
   (repeat (first | (refine mS ?_; conv => whnf) | rw [natI] | rw [ZAF] | ((first | refine ZAA hP hho ?_ | refine ZAB hP hho ?_); (conv => whnf); refine zA ?_; conv => whnf) | (refine arW ?_; conv => whnf)))
   (refine ZAG (H := (ZBa n (updF st i 3) dl tm pr)) (np := 2) 0 0 (Nat.le_of_ble_eq_true rfl) ?_; conv => whnf); (refine ⟨⟨rfl, by omega, rfl, rfl, ?_, rfl⟩, ?_⟩)
   ·exact ⟨rfl, ⟨rfl, rfl, fun j hj => ZQg st dl i 3 j⟩, trivial⟩
   conv => whnf
   (refine ZAC ?_; conv => whnf); exact zF
  ·rw [hb] at hb'; cases hb'
 ·simp only [e, decide_false, pick]
  conv => whnf
  (repeat (first | (refine mS ?_; conv => whnf) | rw [natI] | rw [ZAF] | ((first | refine ZAA hP hho ?_ | refine ZAB hP hho ?_); (conv => whnf); refine zA ?_; conv => whnf) | (refine arW ?_; conv => whnf)))
  (refine ZAG (H := (ZBa n st dl tm pr)) (np := 2) 0 0 (Nat.le_of_ble_eq_true rfl) ?_; conv => whnf); (refine zK ?_)
  (refine ZAC ?_; conv => whnf); exact zF
def prE (n : Nat) (st : Nat -> Int) (pr : Bool) (t : Int) : Int := pick pr (hoE n st t) 1
def prSt (n : Nat) (st : Nat -> Int) (pr : Bool) (t : Int) : Nat -> Int := pick pr (ulSt n st t 4) st
theorem ZHk (n : Nat) (st dl : Nat -> Int) (tm pr : Bool) (t : Int) (hn : n <= 64) : ZAH Tryz.prog 211 [(0, some (ZBe n st dl tm pr))] 1 [.l (.p 0 0 0 0), .l (.v (.int .i64 t))] fun x h k => x = sInt .i64 (prE n st pr t) /\ k = 1 /\ h = [(0, some (ZBe n (prSt n st pr t) dl tm pr))] := by
 have hho := ZEy n st dl tm pr t hn
 refine sG (ZAf (ZBa n st dl tm pr) 2 0 (by omega)) Tryz.func211 ic211_eq [.t 4] fun G hP hA => ?_
 unfold evF ic211 prE prSt ulSt
 cases pr with
 | false =>
  simp only [pick]
  conv => whnf
  (repeat (first | (refine mS ?_; conv => whnf) | rw [natI] | rw [ZAF] | ((first | refine ZAA hP hho ?_ | refine ZAB hP hho ?_); (conv => whnf); refine zA ?_; conv => whnf) | (refine arW ?_; conv => whnf)))
  (refine ZAG (H := (ZBa n st dl tm false)) (np := 2) 0 0 (Nat.le_of_ble_eq_true rfl) ?_; conv => whnf); (refine zK ?_)
  (refine ZAC ?_; conv => whnf); exact zF
 | true =>
  by_cases e : hoE n st t = 0
  ·obtain ⟨hb, hs⟩ := ZQc e
   obtain ⟨_, i, hi, rfl⟩ | ⟨hb', _⟩ := ZAt n t
   ·simp only [e, decide_true, pick, Int.toNat_natCast]
    rw [e] at hho
    conv => whnf
    (repeat (first | (refine mS ?_; conv => whnf) | rw [natI] | rw [ZAF] | ((first | refine ZAA hP hho ?_ | refine ZAB hP hho ?_); (conv => whnf); refine zA ?_; conv => whnf) | (refine arW ?_; conv => whnf)))
    (refine ZAG (H := (ZBa n (updF st i 4) dl tm true)) (np := 2) 0 0 (Nat.le_of_ble_eq_true rfl) ?_; conv => whnf); (refine ⟨⟨rfl, by omega, rfl, rfl, ?_, rfl⟩, ?_⟩)
    ·exact ⟨rfl, ⟨rfl, rfl, fun j hj => ZQg st dl i 4 j⟩, trivial⟩
    conv => whnf
    (refine ZAC ?_; conv => whnf); exact zF
   ·rw [hb] at hb'; cases hb'
  ·simp only [e, decide_false, pick]
   conv => whnf
   (repeat (first | (refine mS ?_; conv => whnf) | rw [natI] | rw [ZAF] | ((first | refine ZAA hP hho ?_ | refine ZAB hP hho ?_); (conv => whnf); refine zA ?_; conv => whnf) | (refine arW ?_; conv => whnf)))
   (refine ZAG (H := (ZBa n st dl tm true)) (np := 2) 0 0 (Nat.le_of_ble_eq_true rfl) ?_; conv => whnf); (refine zK ?_)
   (refine ZAC ?_; conv => whnf); exact zF
theorem ZAc {P : Program} {G : Ctx} {t : TypeId} {name : String} {fid : FuncId} {k c k2 : Nat} {cs : List LV} {xs : List AV} {h : Heap} {n : Nat} {K : SV -> Heap -> Nat -> Prop} (hP : G.P = P)
  (hm : ∀ (a : Addr) (args : Array Value) (w : World) (v : Value), w.cell? (a.add c) = some v -> (callMethod (.iface t (.pointer (some a))) name args).run P w = .ok (.enter fid (#[v] ++ args)) w)
  (hk : hget h k = some (.st cs)) (hc : nth cs c = some (.p k2 0 0 0)) (hcall : CallP G fid (.l (.p k2 0 0 0) :: xs) h n K) : InvP G (.l (.i t k)) name xs h n K := by
 subst hP
 rw [ZCn] at hcall
 rw [ZDo]
 intro G' hG' ρ φ w g hr hxs
 obtain ⟨e1, e2, e3, ⟨ty, e4⟩, e5⟩ := g.hm.at_ k _ hk
 rw [ZAu] at hc
 have hcell : w.cell? ((adr (ρ k) 0).add c) = some ((LV.p k2 0 0 0).at ρ) := by
  by_cases h0 : c = 0
  ·subst h0
   simp [World.cell?, adr, Addr.add, e2, e4, hc]
  ·simp [World.cell?, adr, Addr.add, h0, e2, e4, hc]
 refine ⟨fid, _, hm _ _ _ _ hcell, ?_⟩
 have := hcall.2 G' hG' ρ φ w g (fun x hx => by
  rcases List.mem_cons.1 hx with rfl | hx
  ·exact e5 _ (List.mem_of_getElem? hc)
  ·exact hxs x hx)
 simpa [AV.at] using this
theorem ZBi (n : Nat) (st dl : Nat -> Int) (a b : Bool) : ZAH Tryz.prog 209 [(0, some (ZBe n st dl a b))] 1 [.l (.p 0 0 0 0)] fun x h k => x = sInt .i64 (n : Int) /\ k = 1 /\ h = [(0, some (ZBe n st dl a b))] := by
 refine sG (ZAf (ZBa n st dl a b) 2 0 (by omega)) Tryz.func209 ic209_eq [.t 2] fun G hP hA => ?_
 unfold evF ic209
 conv => whnf
 (refine ZAG (H := (ZBa n st dl a b)) (np := 2) 0 0 (Nat.le_of_ble_eq_true rfl) ?_; conv => whnf); (refine zK ?_)
 (refine ZAC ?_; conv => whnf); exact zF
def IvS (t : TypeId) (nm : String) (fid : FuncId) : Prop := ∀ (a : Addr) (args : Array Value) (w : World) (v : Value), w.cell? (a.add 0) = some v -> (callMethod (.iface t (.pointer (some a))) nm args).run Tryz.prog w = .ok (.enter fid (#[v] ++ args)) w
theorem ZA7 {t : TypeId} {nm : String} {fid : FuncId} (e : ∀ (a : Addr) (args : Array Value) (w : World), (callMethod (.iface t (.pointer (some a))) nm args).run Tryz.prog w = (match w.cell? (a.add 0) with
   | some v => .ok (.enter fid (#[v] ++ args)) w
   | none => match w.farLoad Tryz.prog (a.add 0) false with
    | .ok (v, _) => .ok (.enter fid (#[v] ++ args)) w
    | .error h => .halt h w)) : IvS t nm fid := fun a args w v h => by rw [e, h]
theorem ZKj : IvS 221 "Len" 209 := ZA7 fun a args w => by kernel_rfl
theorem ZJY : IvS 224 "Len" 209 := ZA7 fun a args w => by kernel_rfl
theorem ZME : IvS 227 "Len" 209 := ZA7 fun a args w => by kernel_rfl
theorem ZMF : IvS 230 "Len" 209 := ZA7 fun a args w => by kernel_rfl
theorem ZJZ : IvS 233 "Len" 209 := ZA7 fun a args w => by kernel_rfl
theorem ZKk : IvS 236 "Len" 209 := ZA7 fun a args w => by kernel_rfl
theorem ZIE : IvS 239 "Len" 209 := ZA7 fun a args w => by kernel_rfl
inductive K1 where
 | fl (nx ow : Int) (L : FL)
 | sl (tail : Int) (m : Nat) (L : SL)
 | cl (tail : Int) (L : CL)
 | mc (tail : Int) (L : ML)
 | ab (E : Nat) (tail : Int) (L : AL)
 | hi (tail : Int) (L : HL)
def K1.R (n : Nat) : K1 -> List Go.Sx.Loc -> Go.Sx.Loc -> List Nat -> World -> Prop
 | .fl nx ow L => ZAs (ZB2 n nx ow L.ss.st L.ss.dl L.nu L.dr) 5
 | .sl tail m L => ZAs (ZBX n tail m L.ss.st L.ss.dl L.nu L.sp) 4
 | .cl tail L => ZAs (ZDY n tail L.ss.st L.ss.dl L.no L.ah L.sp) 4
 | .mc tail L => ZAs (ZDZ n tail L.ss.st L.ss.dl L.sp L.ot) 4
 | .ab E tail L => ZAs (ZBx n E tail L.ss.st L.ss.dl L.sp L.tr L.no L.ot) 5
 | .hi tail L => ZAs (ZCC n tail L.ss.st L.ss.dl L.cl L.no L.ah L.la L.wo L.sp) 4
def K1.T : K1 -> Nat
 | .fl .. => 221
 | .sl .. => 224
 | .cl .. => 227
 | .mc .. => 230
 | .ab .. => 233
 | .hi .. => 236
def K1.F : K1 -> Nat
 | .fl .. => 213
 | .sl .. => 231
 | .cl .. => 235
 | .mc .. => 243
 | .ab .. => 252
 | .hi .. => 260
def K1.ss : K1 -> SS
 | .fl nx ow L => L.ss
 | .sl tail m L => L.ss
 | .cl tail L => L.ss
 | .mc tail L => L.ss
 | .ab E tail L => L.ss
 | .hi tail L => L.ss
def K1.tm : K1 -> Bool
 | .ab .. => true
 | _ => false
def K1.pr : K1 -> Bool
 | .fl .. => true
 | .sl .. => false
 | .cl .. => true
 | .mc .. => true
 | .ab .. => false
 | .hi .. => false
def K1.set (st dl : Nat -> Int) : K1 -> K1
 | .fl nx ow L => .fl nx ow ⟨⟨st, dl⟩, L.nu, L.dr⟩
 | .sl tail m L => .sl tail m ⟨⟨st, dl⟩, L.nu, L.sp⟩
 | .cl tail L => .cl tail ⟨⟨st, dl⟩, L.no, L.ah, L.sp⟩
 | .mc tail L => .mc tail ⟨⟨st, dl⟩, L.sp, L.ot⟩
 | .ab E tail L => .ab E tail ⟨⟨st, dl⟩, L.sp, L.tr, L.no, L.ot⟩
 | .hi tail L => .hi tail ⟨⟨st, dl⟩, L.cl, L.no, L.ah, L.la, L.wo, L.sp⟩
def K1.ok (n : Nat) : K1 -> Prop
 | .fl nx ow L => True
 | .sl tail m L => ZCd m /\ (0 <= tail /\ tail <= 4096)
 | .cl tail L => 0 <= tail /\ tail <= 4096
 | .mc tail L => True
 | .ab E tail L => E <= 8 /\ abOk n E L
 | .hi tail L => 0 <= tail /\ tail <= 4096
def K1.step (n nw : Nat) (t now : Int) (ta : Nat) (s : PS) : K1 -> Dd × K1 × PS
 | .fl nx ow L => ((ZCu n nw nx ow t ta L s).1, .fl nx ow (ZCu n nw nx ow t ta L s).2.1, (ZCu n nw nx ow t ta L s).2.2)
 | .sl tail m L => ((ZCv n nw tail m t ta L s).1, .sl tail m (ZCv n nw tail m t ta L s).2.1, (ZCv n nw tail m t ta L s).2.2)
 | .cl tail L => ((ZCc n nw tail t ta L s).1, .cl tail (ZCc n nw tail t ta L s).2.1, (ZCc n nw tail t ta L s).2.2)
 | .mc tail L => ((ZCx n nw tail t ta L s).1, .mc tail (ZCx n nw tail t ta L s).2.1, (ZCx n nw tail t ta L s).2.2)
 | .ab E tail L => ((ZB1 E n nw tail t now ta L s).1, .ab E tail (ZB1 E n nw tail t now ta L s).2.1, (ZB1 E n nw tail t now ta L s).2.2)
 | .hi tail L => ((ZCA n nw tail t ta L s).1, .hi tail (ZCA n nw tail t ta L s).2.1, (ZCA n nw tail t ta L s).2.2)
theorem K1.stable (n : Nat) (S : K1) (ls : List Go.Sx.Loc) : ZCf (S.R n ls) := by cases S <;> exact ZBW _ _ _
theorem ZLq (n nt nw ta : Nat) (nx ow : Int)  (t now : Int) (hs : Nat -> Int) (L : FL) (s : PS) (hn : n <= 64) (ho : inW n t = false) :
  ZAH Tryz.prog 213 (ZIl n nt nw nx ow hs L s) 5 [.l (.p 0 0 0 0), .l (.v (.int .i64 t)), .l (.v (.int .i64 ta)), .l (.v (.int .i64 now))] fun x h k => x = didO (evD 0) /\ k = 5 /\ h = ZIl n nt nw nx ow hs L s := by
 have hst := ZAz n L.ss.st L.ss.dl false true t
 simp only [stV, ho, pick] at hst
 have hen := ZCN n L.ss.st L.ss.dl false true t ho
 refine sE Tryz.func213 ic213_eq [.ca 8 4] fun G hP hA => ?_
 unfold evF ic213
 conv => whnf
 (repeat (first | (refine mS ?_; conv => whnf) | rw [natI] | rw [ZAF] | ((first | refine ZAA hP hst ?_ | refine ZAB hP hst ?_ | refine ZAA hP hen ?_ | refine ZAB hP hen ?_); (conv => whnf); refine zA ?_; conv => whnf) | (refine arW ?_; conv => whnf)))
 (refine ZAC ?_; conv => whnf); exact zF
theorem ZNJ (n nt nw ta : Nat) (nx ow : Int)  (t now : Int) (hs : Nat -> Int) (L : FL) (s : PS) (hta : ta < nt) (hnt : nt <= 64) (hn : n <= 64) (hnw : nw <= 4096) :
  ZAH Tryz.prog 213 [(0, some (.ob [1] (ZAs (ZB2 n nx ow L.ss.st L.ss.dl L.nu L.dr) 5))), (1, some (ZBO nt nw hs s))] 2 [.l (.p 0 0 0 0), .l (.v (.int .i64 t)), .l (.v (.int .i64 ta)), .l (.v (.int .i64 now))] fun x h k =>
   x = didO (ZCu n nw nx ow t ta L s).1 /\ k = 2 /\ h = [(0, some (.ob [1] (ZAs (ZB2 n nx ow (ZCu n nw nx ow t ta L s).2.1.ss.st (ZCu n nw nx ow t ta L s).2.1.ss.dl (ZCu n nw nx ow t ta L s).2.1.nu (ZCu n nw nx ow t ta L s).2.1.dr) 5))), (1, some (ZBO nt nw hs (ZCu n nw nx ow t ta L s).2.2))] := by
 have key : ZAH Tryz.prog 213 (ZIl n nt nw nx ow hs L s) 5 [.l (.p 0 0 0 0), .l (.v (.int .i64 t)), .l (.v (.int .i64 ta)), .l (.v (.int .i64 now))] fun x h k =>
   x = didO (ZCu n nw nx ow t ta L s).1 /\ k = 5 /\ h = ZIl n nt nw nx ow hs (ZCu n nw nx ow t ta L s).2.1 (ZCu n nw nx ow t ta L s).2.2 := by
  rcases ZAt n t with ⟨hb, i, hi, rfl⟩ | ⟨hb, ho⟩
  ·unfold ZCu
   simp only [hb, Int.toNat_natCast]
   exact ZMo n nt nw i ta nx ow now hs L s hi hta hnt hn hnw
  ·unfold ZCu
   simp only [hb]
   exact ZLq n nt nw ta nx ow t now hs L s hn hb
 generalize ZCu n nw nx ow t ta L s = r at key ⊢
 refine ZAH.refin (ZAH.ghost (ZAd 0 (ks := [1]) (H := ZB2 n nx ow L.ss.st L.ss.dl L.nu L.dr) (np := 5) rfl (by decide) rfl rfl rfl) (ZAH.pre key ?_)) ?_
 ·exact ZAD
 ·rintro x h k ⟨rfl, rfl, rfl⟩ _
  (refine ZAG (H := (ZB2 n nx ow r.2.1.ss.st r.2.1.ss.dl r.2.1.nu r.2.1.dr)) (np := 5) 0 1 (Nat.le_of_ble_eq_true rfl) ?_; conv => whnf); (refine zK ?_)
  (refine ZAC ?_; conv => whnf); exact zF
theorem ZLr (n nt nw ta : Nat) (tail : Int) (m : Nat)  (t now : Int) (hs : Nat -> Int) (L : SL) (s : PS) (hn : n <= 64) (ho : inW n t = false) :
  ZAH Tryz.prog 231 (ZEO n nt nw tail m hs L s) 4 [.l (.p 0 0 0 0), .l (.v (.int .i64 t)), .l (.v (.int .i64 ta)), .l (.v (.int .i64 now))] fun x h k => x = didO (evD 0) /\ k = 4 /\ h = ZEO n nt nw tail m hs L s := by
 have hst := ZAz n L.ss.st L.ss.dl false false t
 simp only [stV, ho, pick] at hst
 have hen := ZCN n L.ss.st L.ss.dl false false t ho
 refine sE Tryz.func231 ic231_eq [.ca 8 4] fun G hP hA => ?_
 unfold evF ic231
 conv => whnf
 (repeat (first | (refine mS ?_; conv => whnf) | rw [natI] | rw [ZAF] | ((first | refine ZAA hP hst ?_ | refine ZAB hP hst ?_ | refine ZAA hP hen ?_ | refine ZAB hP hen ?_); (conv => whnf); refine zA ?_; conv => whnf) | (refine arW ?_; conv => whnf)))
 (refine ZAC ?_; conv => whnf); exact zF
theorem ZNK (n nt nw ta : Nat) (tail : Int) (m : Nat)  (t now : Int) (hs : Nat -> Int) (L : SL) (s : PS) (hta : ta < nt) (hnt : nt <= 64) (hn : n <= 64) (hnw : nw <= 4096) (hok : ZCd m /\ (0 <= tail /\ tail <= 4096)) :
  ZAH Tryz.prog 231 [(0, some (.ob [1] (ZAs (ZBX n tail m L.ss.st L.ss.dl L.nu L.sp) 4))), (1, some (ZBO nt nw hs s))] 2 [.l (.p 0 0 0 0), .l (.v (.int .i64 t)), .l (.v (.int .i64 ta)), .l (.v (.int .i64 now))] fun x h k =>
   x = didO (ZCv n nw tail m t ta L s).1 /\ k = 2 /\ h = [(0, some (.ob [1] (ZAs (ZBX n tail m (ZCv n nw tail m t ta L s).2.1.ss.st (ZCv n nw tail m t ta L s).2.1.ss.dl (ZCv n nw tail m t ta L s).2.1.nu (ZCv n nw tail m t ta L s).2.1.sp) 4))), (1, some (ZBO nt nw hs (ZCv n nw tail m t ta L s).2.2))] := by
 have key : ZAH Tryz.prog 231 (ZEO n nt nw tail m hs L s) 4 [.l (.p 0 0 0 0), .l (.v (.int .i64 t)), .l (.v (.int .i64 ta)), .l (.v (.int .i64 now))] fun x h k =>
   x = didO (ZCv n nw tail m t ta L s).1 /\ k = 4 /\ h = ZEO n nt nw tail m hs (ZCv n nw tail m t ta L s).2.1 (ZCv n nw tail m t ta L s).2.2 := by
  rcases ZAt n t with ⟨hb, i, hi, rfl⟩ | ⟨hb, ho⟩
  ·unfold ZCv
   simp only [hb, Int.toNat_natCast]
   exact ZMs n nt nw m i ta tail now hs L s hi hta hnt hn hnw hok.1 hok.2
  ·unfold ZCv
   simp only [hb]
   exact ZLr n nt nw ta tail m t now hs L s hn hb
 generalize ZCv n nw tail m t ta L s = r at key ⊢
 refine ZAH.refin (ZAH.ghost (ZAd 0 (ks := [1]) (H := ZBX n tail m L.ss.st L.ss.dl L.nu L.sp) (np := 4) rfl (by decide) rfl rfl rfl) (ZAH.pre key ?_)) ?_
 ·exact ZAD
 ·rintro x h k ⟨rfl, rfl, rfl⟩ _
  (refine ZAG (H := (ZBX n tail m r.2.1.ss.st r.2.1.ss.dl r.2.1.nu r.2.1.sp)) (np := 4) 0 1 (Nat.le_of_ble_eq_true rfl) ?_; conv => whnf); (refine zK ?_)
  (refine ZAC ?_; conv => whnf); exact zF
theorem ZLs (n nt nw ta : Nat) (tail : Int)  (t now : Int) (hs : Nat -> Int) (L : CL) (s : PS) (hn : n <= 64) (ho : inW n t = false) :
  ZAH Tryz.prog 235 (clhG n nt nw tail hs L s) 4 [.l (.p 0 0 0 0), .l (.v (.int .i64 t)), .l (.v (.int .i64 ta)), .l (.v (.int .i64 now))] fun x h k => x = didO (evD 0) /\ k = 4 /\ h = clhG n nt nw tail hs L s := by
 have hst := ZAz n L.ss.st L.ss.dl false true t
 simp only [stV, ho, pick] at hst
 have hen := ZCN n L.ss.st L.ss.dl false true t ho
 refine sE Tryz.func235 ic235_eq [.ca 8 4] fun G hP hA => ?_
 unfold evF ic235
 conv => whnf
 (repeat (first | (refine mS ?_; conv => whnf) | rw [natI] | rw [ZAF] | ((first | refine ZAA hP hst ?_ | refine ZAB hP hst ?_ | refine ZAA hP hen ?_ | refine ZAB hP hen ?_); (conv => whnf); refine zA ?_; conv => whnf) | (refine arW ?_; conv => whnf)))
 (refine ZAC ?_; conv => whnf); exact zF
theorem ZNL (n nt nw ta : Nat) (tail : Int)  (t now : Int) (hs : Nat -> Int) (L : CL) (s : PS) (hta : ta < nt) (hnt : nt <= 64) (hn : n <= 64) (hnw : nw <= 4096) (hok : 0 <= tail /\ tail <= 4096) :
  ZAH Tryz.prog 235 [(0, some (.ob [1] (ZAs (ZDY n tail L.ss.st L.ss.dl L.no L.ah L.sp) 4))), (1, some (ZBO nt nw hs s))] 2 [.l (.p 0 0 0 0), .l (.v (.int .i64 t)), .l (.v (.int .i64 ta)), .l (.v (.int .i64 now))] fun x h k =>
   x = didO (ZCc n nw tail t ta L s).1 /\ k = 2 /\ h = [(0, some (.ob [1] (ZAs (ZDY n tail (ZCc n nw tail t ta L s).2.1.ss.st (ZCc n nw tail t ta L s).2.1.ss.dl (ZCc n nw tail t ta L s).2.1.no (ZCc n nw tail t ta L s).2.1.ah (ZCc n nw tail t ta L s).2.1.sp) 4))), (1, some (ZBO nt nw hs (ZCc n nw tail t ta L s).2.2))] := by
 have key : ZAH Tryz.prog 235 (clhG n nt nw tail hs L s) 4 [.l (.p 0 0 0 0), .l (.v (.int .i64 t)), .l (.v (.int .i64 ta)), .l (.v (.int .i64 now))] fun x h k =>
   x = didO (ZCc n nw tail t ta L s).1 /\ k = 4 /\ h = clhG n nt nw tail hs (ZCc n nw tail t ta L s).2.1 (ZCc n nw tail t ta L s).2.2 := by
  rcases ZAt n t with ⟨hb, i, hi, rfl⟩ | ⟨hb, ho⟩
  ·unfold ZCc
   simp only [hb, Int.toNat_natCast]
   exact ZMw n nt nw i ta tail now hs L s hi hta hnt hn hnw hok
  ·unfold ZCc
   simp only [hb]
   exact ZLs n nt nw ta tail t now hs L s hn hb
 generalize ZCc n nw tail t ta L s = r at key ⊢
 refine ZAH.refin (ZAH.ghost (ZAd 0 (ks := [1]) (H := ZDY n tail L.ss.st L.ss.dl L.no L.ah L.sp) (np := 4) rfl (by decide) rfl rfl rfl) (ZAH.pre key ?_)) ?_
 ·exact ZAD
 ·rintro x h k ⟨rfl, rfl, rfl⟩ _
  (refine ZAG (H := (ZDY n tail r.2.1.ss.st r.2.1.ss.dl r.2.1.no r.2.1.ah r.2.1.sp)) (np := 4) 0 1 (Nat.le_of_ble_eq_true rfl) ?_; conv => whnf); (refine zK ?_)
  (refine ZAC ?_; conv => whnf); exact zF
theorem ZLt (n nt nw ta : Nat) (tail : Int)  (t now : Int) (hs : Nat -> Int) (L : ML) (s : PS) (hn : n <= 64) (ho : inW n t = false) :
  ZAH Tryz.prog 243 (mcsG n nt nw tail hs L s) 4 [.l (.p 0 0 0 0), .l (.v (.int .i64 t)), .l (.v (.int .i64 ta)), .l (.v (.int .i64 now))] fun x h k => x = didO (evD 0) /\ k = 4 /\ h = mcsG n nt nw tail hs L s := by
 have hst := ZAz n L.ss.st L.ss.dl false true t
 simp only [stV, ho, pick] at hst
 have hen := ZCN n L.ss.st L.ss.dl false true t ho
 refine sE Tryz.func243 ic243_eq [.ca 8 4] fun G hP hA => ?_
 unfold evF ic243
 conv => whnf
 (repeat (first | (refine mS ?_; conv => whnf) | rw [natI] | rw [ZAF] | ((first | refine ZAA hP hst ?_ | refine ZAB hP hst ?_ | refine ZAA hP hen ?_ | refine ZAB hP hen ?_); (conv => whnf); refine zA ?_; conv => whnf) | (refine arW ?_; conv => whnf)))
 (refine ZAC ?_; conv => whnf); exact zF
theorem ZNM (n nt nw ta : Nat) (tail : Int)  (t now : Int) (hs : Nat -> Int) (L : ML) (s : PS) (hta : ta < nt) (hnt : nt <= 64) (hn : n <= 64) (hnw : nw <= 4096) :
  ZAH Tryz.prog 243 [(0, some (.ob [1] (ZAs (ZDZ n tail L.ss.st L.ss.dl L.sp L.ot) 4))), (1, some (ZBO nt nw hs s))] 2 [.l (.p 0 0 0 0), .l (.v (.int .i64 t)), .l (.v (.int .i64 ta)), .l (.v (.int .i64 now))] fun x h k =>
   x = didO (ZCx n nw tail t ta L s).1 /\ k = 2 /\ h = [(0, some (.ob [1] (ZAs (ZDZ n tail (ZCx n nw tail t ta L s).2.1.ss.st (ZCx n nw tail t ta L s).2.1.ss.dl (ZCx n nw tail t ta L s).2.1.sp (ZCx n nw tail t ta L s).2.1.ot) 4))), (1, some (ZBO nt nw hs (ZCx n nw tail t ta L s).2.2))] := by
 have key : ZAH Tryz.prog 243 (mcsG n nt nw tail hs L s) 4 [.l (.p 0 0 0 0), .l (.v (.int .i64 t)), .l (.v (.int .i64 ta)), .l (.v (.int .i64 now))] fun x h k =>
   x = didO (ZCx n nw tail t ta L s).1 /\ k = 4 /\ h = mcsG n nt nw tail hs (ZCx n nw tail t ta L s).2.1 (ZCx n nw tail t ta L s).2.2 := by
  rcases ZAt n t with ⟨hb, i, hi, rfl⟩ | ⟨hb, ho⟩
  ·unfold ZCx
   simp only [hb, Int.toNat_natCast]
   exact ZM1 n nt nw i ta tail now hs L s hi hta hnt hn hnw
  ·unfold ZCx
   simp only [hb]
   exact ZLt n nt nw ta tail t now hs L s hn hb
 generalize ZCx n nw tail t ta L s = r at key ⊢
 refine ZAH.refin (ZAH.ghost (ZAd 0 (ks := [1]) (H := ZDZ n tail L.ss.st L.ss.dl L.sp L.ot) (np := 4) rfl (by decide) rfl rfl rfl) (ZAH.pre key ?_)) ?_
 ·exact ZAD
 ·rintro x h k ⟨rfl, rfl, rfl⟩ _
  (refine ZAG (H := (ZDZ n tail r.2.1.ss.st r.2.1.ss.dl r.2.1.sp r.2.1.ot)) (np := 4) 0 1 (Nat.le_of_ble_eq_true rfl) ?_; conv => whnf); (refine zK ?_)
  (refine ZAC ?_; conv => whnf); exact zF
theorem ZLu (n nt nw ta : Nat) (E : Nat) (tail : Int)  (t now : Int) (hs : Nat -> Int) (L : AL) (s : PS) (hn : n <= 64) (ho : inW n t = false) :
  ZAH Tryz.prog 252 (ZEx n E nt nw tail hs L s) 5 [.l (.p 0 0 0 0), .l (.v (.int .i64 t)), .l (.v (.int .i64 ta)), .l (.v (.int .i64 now))] fun x h k => x = didO (evD 0) /\ k = 5 /\ h = ZEx n E nt nw tail hs L s := by
 have hst := ZAz n L.ss.st L.ss.dl true false t
 simp only [stV, ho, pick] at hst
 have hen := ZCN n L.ss.st L.ss.dl true false t ho
 refine sE Tryz.func252 ic252_eq [.ca 8 4] fun G hP hA => ?_
 unfold evF ic252
 conv => whnf
 (repeat (first | (refine mS ?_; conv => whnf) | rw [natI] | rw [ZAF] | ((first | refine ZAA hP hst ?_ | refine ZAB hP hst ?_ | refine ZAA hP hen ?_ | refine ZAB hP hen ?_); (conv => whnf); refine zA ?_; conv => whnf) | (refine arW ?_; conv => whnf)))
 (refine ZAC ?_; conv => whnf); exact zF
theorem ZNN (n nt nw ta : Nat) (E : Nat) (tail : Int)  (t now : Int) (hs : Nat -> Int) (L : AL) (s : PS) (hta : ta < nt) (hnt : nt <= 64) (hn : n <= 64) (hnw : nw <= 4096) (hok : E <= 8 /\ abOk n E L) :
  ZAH Tryz.prog 252 [(0, some (.ob [1] (ZAs (ZBx n E tail L.ss.st L.ss.dl L.sp L.tr L.no L.ot) 5))), (1, some (ZBO nt nw hs s))] 2 [.l (.p 0 0 0 0), .l (.v (.int .i64 t)), .l (.v (.int .i64 ta)), .l (.v (.int .i64 now))] fun x h k =>
   x = didO (ZB1 E n nw tail t now ta L s).1 /\ k = 2 /\ h = [(0, some (.ob [1] (ZAs (ZBx n E tail (ZB1 E n nw tail t now ta L s).2.1.ss.st (ZB1 E n nw tail t now ta L s).2.1.ss.dl (ZB1 E n nw tail t now ta L s).2.1.sp (ZB1 E n nw tail t now ta L s).2.1.tr (ZB1 E n nw tail t now ta L s).2.1.no (ZB1 E n nw tail t now ta L s).2.1.ot) 5))), (1, some (ZBO nt nw hs (ZB1 E n nw tail t now ta L s).2.2))] := by
 have key : ZAH Tryz.prog 252 (ZEx n E nt nw tail hs L s) 5 [.l (.p 0 0 0 0), .l (.v (.int .i64 t)), .l (.v (.int .i64 ta)), .l (.v (.int .i64 now))] fun x h k =>
   x = didO (ZB1 E n nw tail t now ta L s).1 /\ k = 5 /\ h = ZEx n E nt nw tail hs (ZB1 E n nw tail t now ta L s).2.1 (ZB1 E n nw tail t now ta L s).2.2 := by
  rcases ZAt n t with ⟨hb, i, hi, rfl⟩ | ⟨hb, ho⟩
  ·unfold ZB1
   simp only [hb, Int.toNat_natCast]
   exact ZNI n E nt nw i ta tail now hs L s hi hta hnt hn hok.1 hnw hok.2
  ·unfold ZB1
   simp only [hb]
   exact ZLu n nt nw ta E tail t now hs L s hn hb
 generalize ZB1 E n nw tail t now ta L s = r at key ⊢
 refine ZAH.refin (ZAH.ghost (ZAd 0 (ks := [1]) (H := ZBx n E tail L.ss.st L.ss.dl L.sp L.tr L.no L.ot) (np := 5) rfl (by decide) rfl rfl rfl) (ZAH.pre key ?_)) ?_
 ·exact ZAD
 ·rintro x h k ⟨rfl, rfl, rfl⟩ _
  (refine ZAG (H := (ZBx n E tail r.2.1.ss.st r.2.1.ss.dl r.2.1.sp r.2.1.tr r.2.1.no r.2.1.ot)) (np := 5) 0 1 (Nat.le_of_ble_eq_true rfl) ?_; conv => whnf); (refine zK ?_)
  (refine ZAC ?_; conv => whnf); exact zF
theorem ZLv (n nt nw ta : Nat) (tail : Int)  (t now : Int) (hs : Nat -> Int) (L : HL) (s : PS) (hn : n <= 64) (ho : inW n t = false) :
  ZAH Tryz.prog 260 (ZGy n nt nw tail hs L s) 4 [.l (.p 0 0 0 0), .l (.v (.int .i64 t)), .l (.v (.int .i64 ta)), .l (.v (.int .i64 now))] fun x h k => x = didO (evD 0) /\ k = 4 /\ h = ZGy n nt nw tail hs L s := by
 have hst := ZAz n L.ss.st L.ss.dl false false t
 simp only [stV, ho, pick] at hst
 have hen := ZCN n L.ss.st L.ss.dl false false t ho
 refine sE Tryz.func260 ic260_eq [.ca 8 4] fun G hP hA => ?_
 unfold evF ic260
 conv => whnf
 (repeat (first | (refine mS ?_; conv => whnf) | rw [natI] | rw [ZAF] | ((first | refine ZAA hP hst ?_ | refine ZAB hP hst ?_ | refine ZAA hP hen ?_ | refine ZAB hP hen ?_); (conv => whnf); refine zA ?_; conv => whnf) | (refine arW ?_; conv => whnf)))
 (refine ZAC ?_; conv => whnf); exact zF
theorem ZNO (n nt nw ta : Nat) (tail : Int)  (t now : Int) (hs : Nat -> Int) (L : HL) (s : PS) (hta : ta < nt) (hnt : nt <= 64) (hn : n <= 64) (hnw : nw <= 4096) (hok : 0 <= tail /\ tail <= 4096) :
  ZAH Tryz.prog 260 [(0, some (.ob [1] (ZAs (ZCC n tail L.ss.st L.ss.dl L.cl L.no L.ah L.la L.wo L.sp) 4))), (1, some (ZBO nt nw hs s))] 2 [.l (.p 0 0 0 0), .l (.v (.int .i64 t)), .l (.v (.int .i64 ta)), .l (.v (.int .i64 now))] fun x h k =>
   x = didO (ZCA n nw tail t ta L s).1 /\ k = 2 /\ h = [(0, some (.ob [1] (ZAs (ZCC n tail (ZCA n nw tail t ta L s).2.1.ss.st (ZCA n nw tail t ta L s).2.1.ss.dl (ZCA n nw tail t ta L s).2.1.cl (ZCA n nw tail t ta L s).2.1.no (ZCA n nw tail t ta L s).2.1.ah (ZCA n nw tail t ta L s).2.1.la (ZCA n nw tail t ta L s).2.1.wo (ZCA n nw tail t ta L s).2.1.sp) 4))), (1, some (ZBO nt nw hs (ZCA n nw tail t ta L s).2.2))] := by
 have key : ZAH Tryz.prog 260 (ZGy n nt nw tail hs L s) 4 [.l (.p 0 0 0 0), .l (.v (.int .i64 t)), .l (.v (.int .i64 ta)), .l (.v (.int .i64 now))] fun x h k =>
   x = didO (ZCA n nw tail t ta L s).1 /\ k = 4 /\ h = ZGy n nt nw tail hs (ZCA n nw tail t ta L s).2.1 (ZCA n nw tail t ta L s).2.2 := by
  rcases ZAt n t with ⟨hb, i, hi, rfl⟩ | ⟨hb, ho⟩
  ·unfold ZCA
   simp only [hb, Int.toNat_natCast]
   exact ZNB n nt nw i ta tail now hs L s hi hta hnt hn hnw hok
  ·unfold ZCA
   simp only [hb]
   exact ZLv n nt nw ta tail t now hs L s hn hb
 generalize ZCA n nw tail t ta L s = r at key ⊢
 refine ZAH.refin (ZAH.ghost (ZAd 0 (ks := [1]) (H := ZCC n tail L.ss.st L.ss.dl L.cl L.no L.ah L.la L.wo L.sp) (np := 4) rfl (by decide) rfl rfl rfl) (ZAH.pre key ?_)) ?_
 ·exact ZAD
 ·rintro x h k ⟨rfl, rfl, rfl⟩ _
  (refine ZAG (H := (ZCC n tail r.2.1.ss.st r.2.1.ss.dl r.2.1.cl r.2.1.no r.2.1.ah r.2.1.la r.2.1.wo r.2.1.sp)) (np := 4) 0 1 (Nat.le_of_ble_eq_true rfl) ?_; conv => whnf); (refine zK ?_)
  (refine ZAC ?_; conv => whnf); exact zF
theorem ZLw (S : K1) (v : Value) (args : Array Value) (w : World) : (callMethod (.iface S.T v) "Step" args).run Tryz.prog w = .ok (.enter S.F (#[v] ++ args)) w := by
 cases S <;> kernel_rfl
theorem ZHE (S : K1) (n nt nw ta : Nat) (t now : Int) (hs : Nat -> Int) (s : PS) (hta : ta < nt) (hnt : nt <= 64) (hn : n <= 64) (hnw : nw <= 4096) (hok : S.ok n) :
  ZDq Tryz.prog (.l (.i S.T 0)) "Step" [(0, some (.ob [1] (S.R n))), (1, some (ZBO nt nw hs s))] 2 [.l (.v (.int .i64 t)), .l (.v (.int .i64 ta)), .l (.v (.int .i64 now))] fun x h k =>
   x = didO (S.step n nw t now ta s).1 /\ k = 2 /\ h = [(0, some (.ob [1] ((S.step n nw t now ta s).2.1.R n))), (1, some (ZBO nt nw hs (S.step n nw t now ta s).2.2))] := by
 refine ZJt (ZLw S) ?_
 cases S with
 | fl nx ow L => exact ZNJ n nt nw ta nx ow t now hs L s hta hnt hn hnw
 | sl tail m L => exact ZNK n nt nw ta tail m t now hs L s hta hnt hn hnw hok
 | cl tail L => exact ZNL n nt nw ta tail t now hs L s hta hnt hn hnw hok
 | mc tail L => exact ZNM n nt nw ta tail t now hs L s hta hnt hn hnw
 | ab E tail L => exact ZNN n nt nw ta E tail t now hs L s hta hnt hn hnw hok
 | hi tail L => exact ZNO n nt nw ta tail t now hs L s hta hnt hn hnw hok
theorem ZKA : IvS 221 "Lock" 210 := ZA7 fun a args w => by kernel_rfl
theorem ZIr : IvS 224 "Lock" 210 := ZA7 fun a args w => by kernel_rfl
theorem ZLx : IvS 227 "Lock" 210 := ZA7 fun a args w => by kernel_rfl
theorem ZLy : IvS 230 "Lock" 210 := ZA7 fun a args w => by kernel_rfl
theorem ZIs : IvS 233 "Lock" 210 := ZA7 fun a args w => by kernel_rfl
theorem ZKB : IvS 236 "Lock" 210 := ZA7 fun a args w => by kernel_rfl
theorem ZNP (S : K1) (n : Nat) (t d : Int) (hn : n <= 64) :
  ZDq Tryz.prog (.l (.i S.T 0)) "Lock" [(0, some (.ob [1] (S.R n)))] 2 [.l (.v (.int .i64 t)), .l (.v (.int .i64 d))] fun x h k => x = sInt .i64 (lkE n S.ss.st S.tm t d) /\ k = 2 /\ h = [(0, some (.ob [1] ((S.set (lkSt n S.ss.st S.tm t d) (lkDl n S.ss.st S.ss.dl S.tm t d)).R n)))] := by
 have hq := ZFe n S.ss.st S.ss.dl S.tm S.pr t d hn
 refine ZBo fun G hP hA => ?_
 cases S with
 | fl nx ow L =>
  refine ZAZ (ZAd 0 (ks := [1]) (H := ZB2 n nx ow L.ss.st L.ss.dl L.nu L.dr) (np := 5) rfl (by decide) rfl rfl rfl) ?_
  refine ZAc hP ZKA rfl rfl ?_
  conv => whnf
  (refine ZAA hP (hq) ?_; (conv => whnf); refine zA ?_; conv => whnf)
  (refine ZAG (H := (ZB2 n nx ow (lkSt n L.ss.st false t d) (lkDl n L.ss.st L.ss.dl false t d) L.nu L.dr)) (np := 5) 0 1 (Nat.le_of_ble_eq_true rfl) ?_; conv => whnf); (refine zK ?_)
  (refine ZAC ?_; conv => whnf); exact zF
 | sl tail m L =>
  refine ZAZ (ZAd 0 (ks := [1]) (H := ZBX n tail m L.ss.st L.ss.dl L.nu L.sp) (np := 4) rfl (by decide) rfl rfl rfl) ?_
  refine ZAc hP ZIr rfl rfl ?_
  conv => whnf
  (refine ZAA hP (hq) ?_; (conv => whnf); refine zA ?_; conv => whnf)
  (refine ZAG (H := (ZBX n tail m (lkSt n L.ss.st false t d) (lkDl n L.ss.st L.ss.dl false t d) L.nu L.sp)) (np := 4) 0 1 (Nat.le_of_ble_eq_true rfl) ?_; conv => whnf); (refine zK ?_)
  (refine ZAC ?_; conv => whnf); exact zF
 | cl tail L =>
  refine ZAZ (ZAd 0 (ks := [1]) (H := ZDY n tail L.ss.st L.ss.dl L.no L.ah L.sp) (np := 4) rfl (by decide) rfl rfl rfl) ?_
  refine ZAc hP ZLx rfl rfl ?_
  conv => whnf
  (refine ZAA hP (hq) ?_; (conv => whnf); refine zA ?_; conv => whnf)
  (refine ZAG (H := (ZDY n tail (lkSt n L.ss.st false t d) (lkDl n L.ss.st L.ss.dl false t d) L.no L.ah L.sp)) (np := 4) 0 1 (Nat.le_of_ble_eq_true rfl) ?_; conv => whnf); (refine zK ?_)
  (refine ZAC ?_; conv => whnf); exact zF
 | mc tail L =>
  refine ZAZ (ZAd 0 (ks := [1]) (H := ZDZ n tail L.ss.st L.ss.dl L.sp L.ot) (np := 4) rfl (by decide) rfl rfl rfl) ?_
  refine ZAc hP ZLy rfl rfl ?_
  conv => whnf
  (refine ZAA hP (hq) ?_; (conv => whnf); refine zA ?_; conv => whnf)
  (refine ZAG (H := (ZDZ n tail (lkSt n L.ss.st false t d) (lkDl n L.ss.st L.ss.dl false t d) L.sp L.ot)) (np := 4) 0 1 (Nat.le_of_ble_eq_true rfl) ?_; conv => whnf); (refine zK ?_)
  (refine ZAC ?_; conv => whnf); exact zF
 | ab E tail L =>
  refine ZAZ (ZAd 0 (ks := [1]) (H := ZBx n E tail L.ss.st L.ss.dl L.sp L.tr L.no L.ot) (np := 5) rfl (by decide) rfl rfl rfl) ?_
  refine ZAc hP ZIs rfl rfl ?_
  conv => whnf
  (refine ZAA hP (hq) ?_; (conv => whnf); refine zA ?_; conv => whnf)
  (refine ZAG (H := (ZBx n E tail (lkSt n L.ss.st true t d) (lkDl n L.ss.st L.ss.dl true t d) L.sp L.tr L.no L.ot)) (np := 5) 0 1 (Nat.le_of_ble_eq_true rfl) ?_; conv => whnf); (refine zK ?_)
  (refine ZAC ?_; conv => whnf); exact zF
 | hi tail L =>
  refine ZAZ (ZAd 0 (ks := [1]) (H := ZCC n tail L.ss.st L.ss.dl L.cl L.no L.ah L.la L.wo L.sp) (np := 4) rfl (by decide) rfl rfl rfl) ?_
  refine ZAc hP ZKB rfl rfl ?_
  conv => whnf
  (refine ZAA hP (hq) ?_; (conv => whnf); refine zA ?_; conv => whnf)
  (refine ZAG (H := (ZCC n tail (lkSt n L.ss.st false t d) (lkDl n L.ss.st L.ss.dl false t d) L.cl L.no L.ah L.la L.wo L.sp)) (np := 4) 0 1 (Nat.le_of_ble_eq_true rfl) ?_; conv => whnf); (refine zK ?_)
  (refine ZAC ?_; conv => whnf); exact zF
theorem ZHl : IvS 221 "Unlock" 214 := ZA7 fun a args w => by kernel_rfl
theorem ZGz : IvS 224 "Unlock" 214 := ZA7 fun a args w => by kernel_rfl
theorem ZIt : IvS 227 "Unlock" 214 := ZA7 fun a args w => by kernel_rfl
theorem ZIu : IvS 230 "Unlock" 214 := ZA7 fun a args w => by kernel_rfl
theorem ZG0 : IvS 233 "Unlock" 214 := ZA7 fun a args w => by kernel_rfl
theorem ZHm : IvS 236 "Unlock" 214 := ZA7 fun a args w => by kernel_rfl
theorem ZHn (S : K1) (n : Nat) (t : Int) (hn : n <= 64) :
  ZDq Tryz.prog (.l (.i S.T 0)) "Unlock" [(0, some (.ob [1] (S.R n)))] 2 [.l (.v (.int .i64 t))] fun x h k => x = sInt .i64 (hoE n S.ss.st t) /\ k = 2 /\ h = [(0, some (.ob [1] ((S.set (ulSt n S.ss.st t 3) S.ss.dl).R n)))] := by
 have hq := ZEP n S.ss.st S.ss.dl S.tm S.pr t hn
 refine ZBo fun G hP hA => ?_
 cases S with
 | fl nx ow L =>
  refine ZAZ (ZAd 0 (ks := [1]) (H := ZB2 n nx ow L.ss.st L.ss.dl L.nu L.dr) (np := 5) rfl (by decide) rfl rfl rfl) ?_
  refine ZAc hP ZHl rfl rfl ?_
  conv => whnf
  (refine ZAA hP (hq) ?_; (conv => whnf); refine zA ?_; conv => whnf)
  (refine ZAG (H := (ZB2 n nx ow (ulSt n L.ss.st t 3) L.ss.dl L.nu L.dr)) (np := 5) 0 1 (Nat.le_of_ble_eq_true rfl) ?_; conv => whnf); (refine zK ?_)
  (refine ZAC ?_; conv => whnf); exact zF
 | sl tail m L =>
  refine ZAZ (ZAd 0 (ks := [1]) (H := ZBX n tail m L.ss.st L.ss.dl L.nu L.sp) (np := 4) rfl (by decide) rfl rfl rfl) ?_
  refine ZAc hP ZGz rfl rfl ?_
  conv => whnf
  (refine ZAA hP (hq) ?_; (conv => whnf); refine zA ?_; conv => whnf)
  (refine ZAG (H := (ZBX n tail m (ulSt n L.ss.st t 3) L.ss.dl L.nu L.sp)) (np := 4) 0 1 (Nat.le_of_ble_eq_true rfl) ?_; conv => whnf); (refine zK ?_)
  (refine ZAC ?_; conv => whnf); exact zF
 | cl tail L =>
  refine ZAZ (ZAd 0 (ks := [1]) (H := ZDY n tail L.ss.st L.ss.dl L.no L.ah L.sp) (np := 4) rfl (by decide) rfl rfl rfl) ?_
  refine ZAc hP ZIt rfl rfl ?_
  conv => whnf
  (refine ZAA hP (hq) ?_; (conv => whnf); refine zA ?_; conv => whnf)
  (refine ZAG (H := (ZDY n tail (ulSt n L.ss.st t 3) L.ss.dl L.no L.ah L.sp)) (np := 4) 0 1 (Nat.le_of_ble_eq_true rfl) ?_; conv => whnf); (refine zK ?_)
  (refine ZAC ?_; conv => whnf); exact zF
 | mc tail L =>
  refine ZAZ (ZAd 0 (ks := [1]) (H := ZDZ n tail L.ss.st L.ss.dl L.sp L.ot) (np := 4) rfl (by decide) rfl rfl rfl) ?_
  refine ZAc hP ZIu rfl rfl ?_
  conv => whnf
  (refine ZAA hP (hq) ?_; (conv => whnf); refine zA ?_; conv => whnf)
  (refine ZAG (H := (ZDZ n tail (ulSt n L.ss.st t 3) L.ss.dl L.sp L.ot)) (np := 4) 0 1 (Nat.le_of_ble_eq_true rfl) ?_; conv => whnf); (refine zK ?_)
  (refine ZAC ?_; conv => whnf); exact zF
 | ab E tail L =>
  refine ZAZ (ZAd 0 (ks := [1]) (H := ZBx n E tail L.ss.st L.ss.dl L.sp L.tr L.no L.ot) (np := 5) rfl (by decide) rfl rfl rfl) ?_
  refine ZAc hP ZG0 rfl rfl ?_
  conv => whnf
  (refine ZAA hP (hq) ?_; (conv => whnf); refine zA ?_; conv => whnf)
  (refine ZAG (H := (ZBx n E tail (ulSt n L.ss.st t 3) L.ss.dl L.sp L.tr L.no L.ot)) (np := 5) 0 1 (Nat.le_of_ble_eq_true rfl) ?_; conv => whnf); (refine zK ?_)
  (refine ZAC ?_; conv => whnf); exact zF
 | hi tail L =>
  refine ZAZ (ZAd 0 (ks := [1]) (H := ZCC n tail L.ss.st L.ss.dl L.cl L.no L.ah L.la L.wo L.sp) (np := 4) rfl (by decide) rfl rfl rfl) ?_
  refine ZAc hP ZHm rfl rfl ?_
  conv => whnf
  (refine ZAA hP (hq) ?_; (conv => whnf); refine zA ?_; conv => whnf)
  (refine ZAG (H := (ZCC n tail (ulSt n L.ss.st t 3) L.ss.dl L.cl L.no L.ah L.la L.wo L.sp)) (np := 4) 0 1 (Nat.le_of_ble_eq_true rfl) ?_; conv => whnf); (refine zK ?_)
  (refine ZAC ?_; conv => whnf); exact zF
theorem ZIv : IvS 221 "Probe" 211 := ZA7 fun a args w => by kernel_rfl
theorem ZHo : IvS 224 "Probe" 211 := ZA7 fun a args w => by kernel_rfl
theorem ZKC : IvS 227 "Probe" 211 := ZA7 fun a args w => by kernel_rfl
theorem ZKD : IvS 230 "Probe" 211 := ZA7 fun a args w => by kernel_rfl
theorem ZHp : IvS 233 "Probe" 211 := ZA7 fun a args w => by kernel_rfl
theorem ZIw : IvS 236 "Probe" 211 := ZA7 fun a args w => by kernel_rfl
theorem ZPb (S : K1) (n : Nat) (t : Int) (hn : n <= 64) :
  ZDq Tryz.prog (.l (.i S.T 0)) "Probe" [(0, some (.ob [1] (S.R n)))] 2 [.l (.v (.int .i64 t))] fun x h k => x = sInt .i64 (prE n S.ss.st S.pr t) /\ k = 2 /\ h = [(0, some (.ob [1] ((S.set (prSt n S.ss.st S.pr t) S.ss.dl).R n)))] := by
 have hq := ZHk n S.ss.st S.ss.dl S.tm S.pr t hn
 refine ZBo fun G hP hA => ?_
 cases S with
 | fl nx ow L =>
  refine ZAZ (ZAd 0 (ks := [1]) (H := ZB2 n nx ow L.ss.st L.ss.dl L.nu L.dr) (np := 5) rfl (by decide) rfl rfl rfl) ?_
  refine ZAc hP ZIv rfl rfl ?_
  conv => whnf
  (refine ZAA hP (hq) ?_; (conv => whnf); refine zA ?_; conv => whnf)
  (refine ZAG (H := (ZB2 n nx ow (prSt n L.ss.st true t) L.ss.dl L.nu L.dr)) (np := 5) 0 1 (Nat.le_of_ble_eq_true rfl) ?_; conv => whnf); (refine zK ?_)
  (refine ZAC ?_; conv => whnf); exact zF
 | sl tail m L =>
  refine ZAZ (ZAd 0 (ks := [1]) (H := ZBX n tail m L.ss.st L.ss.dl L.nu L.sp) (np := 4) rfl (by decide) rfl rfl rfl) ?_
  refine ZAc hP ZHo rfl rfl ?_
  conv => whnf
  (refine ZAA hP (hq) ?_; (conv => whnf); refine zA ?_; conv => whnf)
  (refine ZAG (H := (ZBX n tail m (prSt n L.ss.st false t) L.ss.dl L.nu L.sp)) (np := 4) 0 1 (Nat.le_of_ble_eq_true rfl) ?_; conv => whnf); (refine zK ?_)
  (refine ZAC ?_; conv => whnf); exact zF
 | cl tail L =>
  refine ZAZ (ZAd 0 (ks := [1]) (H := ZDY n tail L.ss.st L.ss.dl L.no L.ah L.sp) (np := 4) rfl (by decide) rfl rfl rfl) ?_
  refine ZAc hP ZKC rfl rfl ?_
  conv => whnf
  (refine ZAA hP (hq) ?_; (conv => whnf); refine zA ?_; conv => whnf)
  (refine ZAG (H := (ZDY n tail (prSt n L.ss.st true t) L.ss.dl L.no L.ah L.sp)) (np := 4) 0 1 (Nat.le_of_ble_eq_true rfl) ?_; conv => whnf); (refine zK ?_)
  (refine ZAC ?_; conv => whnf); exact zF
 | mc tail L =>
  refine ZAZ (ZAd 0 (ks := [1]) (H := ZDZ n tail L.ss.st L.ss.dl L.sp L.ot) (np := 4) rfl (by decide) rfl rfl rfl) ?_
  refine ZAc hP ZKD rfl rfl ?_
  conv => whnf
  (refine ZAA hP (hq) ?_; (conv => whnf); refine zA ?_; conv => whnf)
  (refine ZAG (H := (ZDZ n tail (prSt n L.ss.st true t) L.ss.dl L.sp L.ot)) (np := 4) 0 1 (Nat.le_of_ble_eq_true rfl) ?_; conv => whnf); (refine zK ?_)
  (refine ZAC ?_; conv => whnf); exact zF
 | ab E tail L =>
  refine ZAZ (ZAd 0 (ks := [1]) (H := ZBx n E tail L.ss.st L.ss.dl L.sp L.tr L.no L.ot) (np := 5) rfl (by decide) rfl rfl rfl) ?_
  refine ZAc hP ZHp rfl rfl ?_
  conv => whnf
  (refine ZAA hP (hq) ?_; (conv => whnf); refine zA ?_; conv => whnf)
  (refine ZAG (H := (ZBx n E tail (prSt n L.ss.st false t) L.ss.dl L.sp L.tr L.no L.ot)) (np := 5) 0 1 (Nat.le_of_ble_eq_true rfl) ?_; conv => whnf); (refine zK ?_)
  (refine ZAC ?_; conv => whnf); exact zF
 | hi tail L =>
  refine ZAZ (ZAd 0 (ks := [1]) (H := ZCC n tail L.ss.st L.ss.dl L.cl L.no L.ah L.la L.wo L.sp) (np := 4) rfl (by decide) rfl rfl rfl) ?_
  refine ZAc hP ZIw rfl rfl ?_
  conv => whnf
  (refine ZAA hP (hq) ?_; (conv => whnf); refine zA ?_; conv => whnf)
  (refine ZAG (H := (ZCC n tail (prSt n L.ss.st false t) L.ss.dl L.cl L.no L.ah L.la L.wo L.sp)) (np := 4) 0 1 (Nat.le_of_ble_eq_true rfl) ?_; conv => whnf); (refine zK ?_)
  (refine ZAC ?_; conv => whnf); exact zF
theorem ZIx : IvS 221 "State" 212 := ZA7 fun a args w => by kernel_rfl
theorem ZHq : IvS 224 "State" 212 := ZA7 fun a args w => by kernel_rfl
theorem ZKE : IvS 227 "State" 212 := ZA7 fun a args w => by kernel_rfl
theorem ZKF : IvS 230 "State" 212 := ZA7 fun a args w => by kernel_rfl
theorem ZHr : IvS 233 "State" 212 := ZA7 fun a args w => by kernel_rfl
theorem ZIy : IvS 236 "State" 212 := ZA7 fun a args w => by kernel_rfl
theorem ZPc (S : K1) (n : Nat) (t : Int) (hn : n <= 64) :
  ZDq Tryz.prog (.l (.i S.T 0)) "State" [(0, some (.ob [1] (S.R n)))] 2 [.l (.v (.int .i64 t))] fun x h k => x = sInt .i64 (stV n S.ss.st t) /\ k = 2 /\ h = [(0, some (.ob [1] (S.R n)))] := by
 have hq := ZAz n S.ss.st S.ss.dl S.tm S.pr t
 refine ZBo fun G hP hA => ?_
 cases S with
 | fl nx ow L =>
  refine ZAZ (ZAd 0 (ks := [1]) (H := ZB2 n nx ow L.ss.st L.ss.dl L.nu L.dr) (np := 5) rfl (by decide) rfl rfl rfl) ?_
  refine ZAc hP ZIx rfl rfl ?_
  conv => whnf
  (refine ZAA hP (hq) ?_; (conv => whnf); refine zA ?_; conv => whnf)
  (refine ZAG (H := (ZB2 n nx ow L.ss.st L.ss.dl L.nu L.dr)) (np := 5) 0 1 (Nat.le_of_ble_eq_true rfl) ?_; conv => whnf); (refine zK ?_)
  (refine ZAC ?_; conv => whnf); exact zF
 | sl tail m L =>
  refine ZAZ (ZAd 0 (ks := [1]) (H := ZBX n tail m L.ss.st L.ss.dl L.nu L.sp) (np := 4) rfl (by decide) rfl rfl rfl) ?_
  refine ZAc hP ZHq rfl rfl ?_
  conv => whnf
  (refine ZAA hP (hq) ?_; (conv => whnf); refine zA ?_; conv => whnf)
  (refine ZAG (H := (ZBX n tail m L.ss.st L.ss.dl L.nu L.sp)) (np := 4) 0 1 (Nat.le_of_ble_eq_true rfl) ?_; conv => whnf); (refine zK ?_)
  (refine ZAC ?_; conv => whnf); exact zF
 | cl tail L =>
  refine ZAZ (ZAd 0 (ks := [1]) (H := ZDY n tail L.ss.st L.ss.dl L.no L.ah L.sp) (np := 4) rfl (by decide) rfl rfl rfl) ?_
  refine ZAc hP ZKE rfl rfl ?_
  conv => whnf
  (refine ZAA hP (hq) ?_; (conv => whnf); refine zA ?_; conv => whnf)
  (refine ZAG (H := (ZDY n tail L.ss.st L.ss.dl L.no L.ah L.sp)) (np := 4) 0 1 (Nat.le_of_ble_eq_true rfl) ?_; conv => whnf); (refine zK ?_)
  (refine ZAC ?_; conv => whnf); exact zF
 | mc tail L =>
  refine ZAZ (ZAd 0 (ks := [1]) (H := ZDZ n tail L.ss.st L.ss.dl L.sp L.ot) (np := 4) rfl (by decide) rfl rfl rfl) ?_
  refine ZAc hP ZKF rfl rfl ?_
  conv => whnf
  (refine ZAA hP (hq) ?_; (conv => whnf); refine zA ?_; conv => whnf)
  (refine ZAG (H := (ZDZ n tail L.ss.st L.ss.dl L.sp L.ot)) (np := 4) 0 1 (Nat.le_of_ble_eq_true rfl) ?_; conv => whnf); (refine zK ?_)
  (refine ZAC ?_; conv => whnf); exact zF
 | ab E tail L =>
  refine ZAZ (ZAd 0 (ks := [1]) (H := ZBx n E tail L.ss.st L.ss.dl L.sp L.tr L.no L.ot) (np := 5) rfl (by decide) rfl rfl rfl) ?_
  refine ZAc hP ZHr rfl rfl ?_
  conv => whnf
  (refine ZAA hP (hq) ?_; (conv => whnf); refine zA ?_; conv => whnf)
  (refine ZAG (H := (ZBx n E tail L.ss.st L.ss.dl L.sp L.tr L.no L.ot)) (np := 5) 0 1 (Nat.le_of_ble_eq_true rfl) ?_; conv => whnf); (refine zK ?_)
  (refine ZAC ?_; conv => whnf); exact zF
 | hi tail L =>
  refine ZAZ (ZAd 0 (ks := [1]) (H := ZCC n tail L.ss.st L.ss.dl L.cl L.no L.ah L.la L.wo L.sp) (np := 4) rfl (by decide) rfl rfl rfl) ?_
  refine ZAc hP ZIy rfl rfl ?_
  conv => whnf
  (refine ZAA hP (hq) ?_; (conv => whnf); refine zA ?_; conv => whnf)
  (refine ZAG (H := (ZCC n tail L.ss.st L.ss.dl L.cl L.no L.ah L.la L.wo L.sp)) (np := 4) 0 1 (Nat.le_of_ble_eq_true rfl) ?_; conv => whnf); (refine zK ?_)
  (refine ZAC ?_; conv => whnf); exact zF
def inT : Nat -> Nat
 | 1 => 221
 | 3 => 227
 | _ => 230
def inN : Nat -> Nat -> Nat
 | 1, _ => 2
 | 3, m => 2 + m
 | _, m => 1 + 2 * m
def inHs : Nat -> (Nat -> Int) -> Nat -> (Nat -> Int) -> Nat -> Nat -> Int
 | 1, hs, M, h, _ => ZER hs M h
 | 3, hs, M, h, m => ZH4 hs M h m
 | _, hs, M, h, m => ZH5 hs M h m
def inWs : Nat -> (Nat -> Int) -> Nat -> Nat -> Nat -> Int
 | 1, ws, M, _ => ZGR ws M 0
 | 3, ws, M, m => ZJB ws M m
 | _, ws, M, m => ZJE ws M m
abbrev RelT := List Go.Sx.Loc -> Go.Sx.Loc -> List Nat -> World -> Prop
def inR0 : Nat -> Nat -> Nat -> RelT
 | 1, m, M => ZAs (ZLN m M (M + 1) (fun _ => 0) (fun _ => -1) (fun _ => 0) fun _ => false) 4
 | 3, m, M => ZAs (ZOl m M (fun _ => 0) (fun _ => -1) (fun i => i + 1) (fun _ => 0) fun _ => 0) 3
 | _, m, M => ZAs (ZOp m M (fun _ => 0) (fun _ => -1) (fun _ => 0) fun _ => 0) 3
def inR1 : Nat -> Nat -> Nat -> RelT
 | 1, m, M => ZAs (ZB2 m M (M + 1) (fun _ => 0) (fun _ => -1) (fun _ => 0) fun _ => false) 5
 | 3, m, M => ZAs (ZDY m M (fun _ => 0) (fun _ => -1) (fun i => i + 1) (fun _ => 0) fun _ => 0) 4
 | _, m, M => ZAs (ZDZ m M (fun _ => 0) (fun _ => -1) (fun _ => 0) fun _ => 0) 4
theorem ZAX (k m M : Nat) (ls : List Go.Sx.Loc) : ZCf (inR0 k m M ls) := by
 unfold inR0; split <;> exact ZBW _ _ _
theorem ZAq (k m M : Nat) (ls : List Go.Sx.Loc) : ZCf (inR1 k m M ls) := by
 unfold inR1; split <;> exact ZBW _ _ _
def ZQp : Nat -> Nat
 | 1 => 215
 | 3 => 236
 | _ => 244
def isIn (k : Nat) : Prop := k = 1 \/ k = 3 \/ k = 4
theorem ZCk (kd : Nat) (hk : isIn kd) (th : Int) (M : Nat) (hs ws h : Nat -> Int) (m : Nat) (hM : M <= 10000) (hm : 1 <= m /\ m <= 64) (hb : anyZ badH h m = false) :
  ZAH Tryz.prog 143 [(0, some (ZBI th M hs ws)), (1, some (.ro 1 m (numE h)))] 2 [.l (.p 0 0 0 0), .l (.v (.int .i64 kd)), .l (.s 1 1 0 m 0)] fun x h' k =>
   x = .o (.l (.i (inT kd) 2)) /\ k = 3 /\ h' = [(0, some (ZBI th (M + inN kd m) (inHs kd hs M h m) (inWs kd ws M m))), (2, some (.ob [] (inR0 kd m M)))] := by
 have h1 := ZHL th M hs ws h m 0 (by omega) hm hb
 have h3 := ZJC th M hs ws h m (by omega) hm hb
 have h4 := ZJF th M hs ws h m (by omega) hm hb
 refine sE Tryz.func143 ic143_eq [.t 6] fun G hP hA => ?_
 unfold evF ic143
 rcases hk with rfl | rfl | rfl
 ·conv => whnf
  (refine ZAA hP (h1) ?_; (conv => whnf); refine zA ?_; conv => whnf)
  (refine ZAC ?_; conv => whnf); exact zF
 ·rw [Nat.add_assoc] at h3
  conv => whnf
  (refine ZAA hP (h3) ?_; (conv => whnf); refine zA ?_; conv => whnf)
  (refine ZAC ?_; conv => whnf); exact zF
 ·rw [Nat.add_assoc] at h4
  conv => whnf
  (refine ZAA hP (h4) ?_; (conv => whnf); refine zA ?_; conv => whnf)
  (refine ZAC ?_; conv => whnf); exact zF
theorem ZBq (kd : Nat) (hk : isIn kd) (m M : Nat) :
  ZAH Tryz.prog (ZQp kd) [(0, some (.ob [] (inR0 kd m M)))] 2 [.l (.p 0 0 0 0), .l (.p 1 0 0 0)] fun x h k => x = .t [] /\ k = 2 /\ h = [(0, some (.ob [1] (inR1 kd m M)))] := by
 rcases hk with rfl | rfl | rfl
 ·exact ZFg m M (M + 1) (fun _ => 0) (fun _ => -1) (fun _ => 0) fun _ => false
 ·exact ZGQ m M (fun _ => 0) (fun _ => -1) (fun i => i + 1) (fun _ => 0) fun _ => 0
 ·exact ZGT m M (fun _ => 0) (fun _ => -1) (fun _ => 0) fun _ => 0
theorem ZCD (kd : Nat) (hk : isIn kd) (v : Value) (args : Array Value) (w : World) : (callMethod (.iface (inT kd) v) "Use" args).run Tryz.prog w = .ok (.enter (ZQp kd) (#[v] ++ args)) w := by
 rcases hk with rfl | rfl | rfl
 ·exact ZGS v args w
 ·exact ZHK v args w
 ·exact ZHM v args w
theorem ZJV (th : Int) (M : Nat) (hs ws : Nat -> Int) : ZAH Tryz.prog 142 [(0, some (ZBI th M hs ws))] 1 [.l (.p 0 0 0 0)] fun x h k => x = sInt .i64 (M : Int) /\ k = 1 /\ h = [(0, some (ZBI th M hs ws))] := by
 refine sG (ZAf (ZKT th M hs ws) 3 0 (by omega)) Tryz.func142 ic142_eq [.t 2] fun G hP hA => ?_
 unfold evF ic142
 conv => whnf
 (refine ZAG (H := (ZKT th M hs ws)) (np := 3) 0 0 (Nat.le_of_ble_eq_true rfl) ?_; conv => whnf); (refine zK ?_)
 (refine ZAC ?_; conv => whnf); exact zF
theorem ZKg (v : Int) : ZAH Tryz.prog 141 [] 0 [.l (.v (.int .i64 v))] fun x h n => x = ZAb (badH v) /\ n = 0 /\ h = [] := by
 refine sE Tryz.func141 ic141_eq [.t 2] fun G hP hA => ?_
 unfold evF ic141
 conv => whnf
 (repeat' (first | (refine ZAE ?_; conv => whnf) | (refine dsplit (fun _ => ?_) (fun _ => ?_) <;> conv => whnf)))
 all_goals (((refine ZAC ?_; conv => whnf); refine ⟨rfl, rfl, rfl, ZAr ?_, ZAD, rfl⟩); unfold badH; rw [Bool.eq_iff_iff]; simp; omega)
def gl2 : Nat -> Int | 0 => 1 | _ => 4
def loc3 : Nat -> Int | 0 => 1 | 1 => 3 | _ => 4
def cnt (h : Nat -> Int) : Nat -> Nat -> Nat
 | 0, _ => 0
 | i + 1, j => cnt h i j + if h i = (j : Int) then 1 else 0
theorem ZHO (h : Nat -> Int) : ∀ i j, cnt h i j <= i
 | 0, _ => Nat.le_refl 0
 | i + 1, j => by
  have := ZHO h i j
  simp only [cnt]
  split <;> omega
def l3 (l : Nat) (cn : Nat -> Nat) (p0 : Nat × (Nat -> Int) × (Nat -> Int)) : Nat -> Nat × (Nat -> Int) × (Nat -> Int)
 | 0 => p0
 | i + 1 => bif Nat.blt 0 (cn i) then ((l3 l cn p0 i).1 + inN l (cn i), inHs l (l3 l cn p0 i).2.1 (l3 l cn p0 i).1 (fun _ => (i : Int)) (cn i), inWs l (l3 l cn p0 i).2.2 (l3 l cn p0 i).1 (cn i)) else l3 l cn p0 i
theorem ZES {l : Nat} {cn : Nat -> Nat} {p0 : Nat × (Nat -> Int) × (Nat -> Int)} {i : Nat} (h : Nat.blt 0 (cn i) = true) : l3 l cn p0 (i + 1) = ((l3 l cn p0 i).1 + inN l (cn i), inHs l (l3 l cn p0 i).2.1 (l3 l cn p0 i).1 (fun _ => (i : Int)) (cn i), inWs l (l3 l cn p0 i).2.2 (l3 l cn p0 i).1 (cn i)) := by rw [l3, h]; rfl
theorem ZG4 {l : Nat} {cn : Nat -> Nat} {p0 : Nat × (Nat -> Int) × (Nat -> Int)} {i : Nat} (h : Nat.blt 0 (cn i) = false) : l3 l cn p0 (i + 1) = l3 l cn p0 i := by rw [l3, h]; rfl
theorem ZLQ (k m : Nat) : inN k m <= 2 + 2 * m := by unfold inN; split <;> omega
theorem ZGV {l : Nat} {cn : Nat -> Nat} {p0 : Nat × (Nat -> Int) × (Nat -> Int)} (hc : ∀ j, cn j <= 64) : ∀ i, (l3 l cn p0 i).1 <= p0.1 + 130 * i
 | 0 => Nat.le_refl _
 | i + 1 => by
  have ih := ZGV (l := l) (p0 := p0) hc i
  cases h : Nat.blt 0 (cn i) with
  | true =>
   rw [ZES h]
   have h1 := ZLQ l (cn i)
   have h2 := hc i
   show (l3 l cn p0 i).1 + inN l (cn i) <= _
   omega
  | false => rw [ZG4 h]; omega
def lb (cn : Nat -> Nat) (i j : Nat) : Bool := Nat.blt j i && Nat.blt 0 (cn j)
def ZLR (no inn : Nat -> Int) : Nat -> List Value := fun t => [.int .i64 (no t), .int .i64 (inn t), .nilFunc, .int .u32 0]
def ZCe (h : Nat -> Int) (i : Nat) : Nat -> List Value := ZLR (fun t => if t < i then h t else 0) fun t => if t < i then (cnt h t (h t).toNat : Int) else 0
def p0F (M g : Nat) (hs ws : Nat -> Int) : Nat × (Nat -> Int) × (Nat -> Int) := (M + 8 + inN g 8, inHs g (ZBQ hs M (fun i => (i : Int)) 8) (M + 8) (fun i => (i : Int)) 8, inWs g (ZBQ ws M (fun _ => 0) 8) (M + 8) 8)
def ZPp (m M g l : Nat) (budget : Int) (cn : Nat -> Nat) (p0 : Nat × (Nat -> Int) × (Nat -> Int)) (pl : Nat -> List Value) : Heap :=
 [(0, some (.st [.p 1 0 0 0, .v (.pointer none), .v (.int .i64 M), .v (.int .u32 budget), .i (inT g) 2, .io (lb cn 8 0) (inT l) 4, .io (lb cn 8 1) (inT l) 5, .io (lb cn 8 2) (inT l) 6, .io (lb cn 8 3) (inT l) 7, .io (lb cn 8 4) (inT l) 8, .io (lb cn 8 5) (inT l) 9, .io (lb cn 8 6) (inT l) 10, .io (lb cn 8 7) (inT l) 11, .s 3 4 0 m 0])), (1, some (ZBe m (fun _ => 0) (fun _ => -1) false false)), (2, some (.ob [] (inR0 g 8 (M + 8)))), (3, some (.ar 4 m pl)), (4, some (.ob [] (OptR (lb cn 8 0) (inR0 l (cn 0) (l3 l cn p0 0).1)))), (5, some (.ob [] (OptR (lb cn 8 1) (inR0 l (cn 1) (l3 l cn p0 1).1)))), (6, some (.ob [] (OptR (lb cn 8 2) (inR0 l (cn 2) (l3 l cn p0 2).1)))), (7, some (.ob [] (OptR (lb cn 8 3) (inR0 l (cn 3) (l3 l cn p0 3).1)))), (8, some (.ob [] (OptR (lb cn 8 4) (inR0 l (cn 4) (l3 l cn p0 4).1)))), (9, some (.ob [] (OptR (lb cn 8 5) (inR0 l (cn 5) (l3 l cn p0 5).1)))), (10, some (.ob [] (OptR (lb cn 8 6) (inR0 l (cn 6) (l3 l cn p0 6).1)))), (11, some (.ob [] (OptR (lb cn 8 7) (inR0 l (cn 7) (l3 l cn p0 7).1))))]
def ZOs (m M g l : Nat) (budget : Int) (cn : Nat -> Nat) (p0 : Nat × (Nat -> Int) × (Nat -> Int)) (pl : Nat -> List Value) : Ent := .ob [] (ZAs (ZPp m M g l budget cn p0 pl) 12)
end Go.Proofs.YtlkfolopbehikaaGreat
