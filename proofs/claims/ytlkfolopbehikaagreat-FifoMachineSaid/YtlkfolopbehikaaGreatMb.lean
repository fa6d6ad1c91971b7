/- part · part · part · part · part · part · part · part · part · part · part · part · part · part · part · part · part · part · part · part · part · part · part · part -/
import Derived.Test.YtlkfolopbehikaaGreatMa
import Derived.Test.YtlkfolopbehikaaGreatSxPU
import Derived.Test.YtlkfolopbehikaaGreatSxPS
set_option linter.unusedSimpArgs false
set_option linter.unusedVariables false
set_option maxHeartbeats 8000000
set_option maxRecDepth 8000
namespace Go.Proofs.YtlkfolopbehikaaGreat
open Go Go.Sx
structure AL where
 ss : SS
 sp : Nat -> Int
 tr : Nat -> Int
 no : Nat -> Int
 ot : Nat -> Int
def ZBZ (m E : Nat) (tail : Int) (st dl stp tr no ot : Nat -> Int) : Heap := [(0, some (.st [.p 2 0 0 0, .p 1 0 0 0, .p 3 0 0 0, .v (.int .i64 tail), .s 4 4 0 m 0])), (2, some (ZBr m st dl true false)), (3, some (ZNz m E)), (4, some (.ar 4 m (ZBc stp tr no ot)))]
def ZE7 (n E nt nw : Nat) (tail : Int) (hs : Nat -> Int) (L : AL) (s : PS) : Heap := (1, some (ZBC nt nw hs s)) :: ZBZ n E tail L.ss.st L.ss.dl L.sp L.tr L.no L.ot
def ZLp (n E nt nw : Nat) (tail : Int) (hs : Nat -> Int) (t : Nat) (L : AL) (s : PS) : Heap := (5, some (.ar 1 E (rowE E t))) :: ZE7 n E nt nw tail hs L s
def abA (tail k : Int) : Int := i64w (i64w (tail + i64w (3 * k)) - 2)
def abS (n : Nat) (tail : Int) : Heap := [(0, some (.st [.p 2 0 0 0, .p 1 0 0 0, .p 3 0 0 0, .v (.int .i64 tail), .s 4 4 0 n 0]))]
theorem ZDz (n : Nat) (tail u : Int) :
  ZAE Tryz.prog 258 (abS n tail) 5 [.l (.p 0 0 0 0), .l (.v (.int .i64 u))] fun x h m => x = sInt .i64 (abA tail u) /\ m = 5 /\ h = abS n tail := by
 refine sE Tryz.func258 ic258_eq [.t 4] fun G hP hA => ?_
 unfold evF ic258
 conv => whnf
 refine g0 ?_
 exact fA
def abN (E t : Nat) (k : Int) : Int := (t : Int) * E + (k.toNat : Int) + 1
def abSr (E nw : Nat) (tail : Int) (t ta : Nat) (L : AL) (s : PS) : Dd × AL × PS :=
 let a := i64w (abA tail (abN E t (L.tr t)) + 2)
 (evD (pick (decide (rdV nw a s = 0)) 0 (pick (decide (L.tr t + 1 = (E : Int))) 6 0)), ⟨L.ss, pick (decide (rdV nw a s = 0)) (updF L.sp t 1) L.sp, updF L.tr t (L.tr t + 1), updF L.no t (abN E t (L.tr t)), L.ot⟩, rdS nw ta a s)
def abNx (L : AL) (t : Nat) (k : Int) : AL := ⟨L.ss, updF L.sp t k, L.tr, L.no, L.ot⟩
def abLk (E nw : Nat) (tail : Int) (t ta : Nat) (late : Bool) (L : AL) (s : PS) : Dd × AL × PS :=
 let a := abA tail (L.no t)
 pick (decide (L.sp t = 0)) (abSr E nw tail t ta L s)
 (pick (decide (L.sp t = 1)) (evD 0, abNx L t 2, wtS nw ta (i64w (a + 2)) 1 s)
 (pick (decide (L.sp t = 2)) (evD 0, abNx L t 3, wtS nw ta a 0 s)
 (pick (decide (L.sp t = 3)) (evD 0, abNx L t 4, wtS nw ta (i64w (a + 1)) 0 s)
 (pick (decide (L.sp t = 4)) (⟨pick (decide (i64w (rdV nw tail s) = 0)) 1 0, true, false, false⟩, ⟨L.ss, pick (decide (i64w (rdV nw tail s) = 0)) L.sp (updF L.sp t 5), L.tr, L.no, updF L.ot t (i64w (rdV nw tail s))⟩, wtS nw ta tail (u32w (L.no t)) s)
 (pick (decide (L.sp t = 5)) (evD 0, abNx L t 6, wtS nw ta (i64w (abA tail (L.ot t) + 1)) (u32w (L.no t)) s)
 (pick (decide (L.sp t = 6)) (evD (pick (decide (rdV nw a s = 0)) 0 1), pick (decide (rdV nw a s = 0) && late) (abNx L t 7) L, rdS nw ta a s)
 (pick (decide (L.sp t = 7)) (evD (pick (casB nw a 0 s) 2 1), L, casS nw ta a 0 2 s)
  (evD 0, abNx L t (i64w (L.sp t + 1)), s))))))))
def abUl (nw : Nat) (tail : Int) (t ta : Nat) (L : AL) (s : PS) : Int × AL × PS :=
 let a := abA tail (L.no t)
 let o := i64w (rdV nw (i64w (a + 1)) s)
 pick (decide (L.sp t = 0) || decide (L.sp t = 2)) (0, ⟨L.ss, pick (decide (o = 0)) (pick (decide (L.sp t = 0)) (updF L.sp t 1) L.sp) (updF L.sp t 3), L.tr, L.no, updF L.ot t o⟩, rdS nw ta (i64w (a + 1)) s)
 (pick (decide (L.sp t = 1)) (0, abNx L t (pick (casB nw tail (u32w (L.no t)) s) 5 2), casS nw ta tail (u32w (L.no t)) 0 s)
 (pick (decide (L.sp t = 3)) (0, abNx L t (pick (casB nw (abA tail (L.ot t)) 0 s) 5 4), casS nw ta (abA tail (L.ot t)) 0 1 s)
 (pick (decide (L.sp t = 4)) (0, ⟨L.ss, updF L.sp t 0, updF L.tr t 0, updF L.no t (L.ot t), updF L.ot t 0⟩, wtS nw ta (i64w (a + 2)) 0 s)
 (pick (decide (L.sp t = 5)) (3, L, wtS nw ta (i64w (a + 2)) 0 s)
  (0, L, s)))))
def ZHY (dl : Nat -> Int) (t : Nat) (now : Int) : Bool := decide (0 <= dl t) && decide (dl t <= now)
def ZAz (E nw : Nat) (tail : Int) (t ta : Nat) (now : Int) (L : AL) (s : PS) : Dd × AL × PS :=
 pick (decide (L.ss.st t = 1)) (abLk E nw tail t ta (ZHY L.ss.dl t now) L s) (pick (decide (L.ss.st t = 3)) (evD (abUl nw tail t ta L s).1, (abUl nw tail t ta L s).2) (evD 0, L, s))
def ZET (t : Nat) (r : Dd × AL × PS) : Dd × AL × PS :=
 (r.1, pick (enB r.2.1.ss.st t r.1.e) ⟨enSS r.2.1.ss t r.1.e, updF r.2.1.sp t 0, updF r.2.1.tr t 0, r.2.1.no, updF r.2.1.ot t 0⟩ ⟨enSS r.2.1.ss t r.1.e, r.2.1.sp, r.2.1.tr, r.2.1.no, r.2.1.ot⟩, r.2.2)
def ZBD (E n nw : Nat) (tail : Int) (t now : Int) (ta : Nat) (L : AL) (s : PS) : Dd × AL × PS :=
 match inW n t with | true => ZET t.toNat (ZAz E nw tail t.toNat ta now L s) | false => (evD 0, L, s)
def abOk (n E : Nat) (L : AL) : Prop := ∀ t, t < n -> L.ss.st t = 1 -> L.sp t = 0 -> 0 <= L.tr t /\ L.tr t < E
theorem ZDR (sp tr no ot : Nat -> Int) (i : Nat) (v : Int) (j : Nat) : mrgL (j = i) (ZAI (ZBc sp tr no ot j) 0 [.int .i64 v]) (ZBc sp tr no ot j) = ZBc (updF sp i v) tr no ot j := by
 simp only [ZBc, updF, ZAI, setL, mrgL, ZA0]
 by_cases h : j = i <;> simp [h]
theorem ZDS (sp tr no ot : Nat -> Int) (i : Nat) (v : Int) (j : Nat) : mrgL (j = i) (ZAI (ZBc sp tr no ot j) 1 [.int .i64 v]) (ZBc sp tr no ot j) = ZBc sp (updF tr i v) no ot j := by
 simp only [ZBc, updF, ZAI, setL, mrgL, ZA0]
 by_cases h : j = i <;> simp [h]
theorem ZDT (sp tr no ot : Nat -> Int) (i : Nat) (v : Int) (j : Nat) : mrgL (j = i) (ZAI (ZBc sp tr no ot j) 2 [.int .i64 v]) (ZBc sp tr no ot j) = ZBc sp tr (updF no i v) ot j := by
 simp only [ZBc, updF, ZAI, setL, mrgL, ZA0]
 by_cases h : j = i <;> simp [h]
theorem ZDU (sp tr no ot : Nat -> Int) (i : Nat) (v : Int) (j : Nat) : mrgL (j = i) (ZAI (ZBc sp tr no ot j) 3 [.int .i64 v]) (ZBc sp tr no ot j) = ZBc sp tr no (updF ot i v) j := by
 simp only [ZBc, updF, ZAI, setL, mrgL, ZA0]
 by_cases h : j = i <;> simp [h]
theorem ZPX (sp tr no ot : Nat -> Int) (i : Nat) (a b c d : Int) (j : Nat) : mrgL (j = i) (ZAI (ZBc sp tr no ot j) 0 [.int .i64 a, .int .i64 b, .int .i64 c, .int .i64 d]) (ZBc sp tr no ot j) = ZBc (updF sp i a) (updF tr i b) (updF no i c) (updF ot i d) j := by
 simp only [ZBc, updF, ZAI, setL, mrgL, ZA0]
 by_cases h : j = i <;> simp [h]
theorem ZQi (f : Nat -> Int) (i : Nat) : updF f i (f i) = f := by
 funext j
 simp only [updF]
 by_cases h : j = i <;> simp [h]
theorem ZN1 (n E nt nw t ta : Nat) (tail : Int) (hs : Nat -> Int) (L : AL) (s : PS) (ht : t < n) (hta : ta < nt) (hnt : nt <= 64) (hn : n <= 64) (hE : E <= 8) (hnw : nw <= 4096) (htr : 0 <= L.tr t /\ L.tr t < E) :
  ZAE Tryz.prog 259 (ZLp n E nt nw tail hs t L s) 6 [.l (.p 0 0 0 0), .l (.p 4 4 t 0), .l (.s 5 1 0 E 0), .l (.v (.int .i64 ta))] fun x h k =>
   x = didO (abSr E nw tail t ta L s).1 /\ k = 6 /\ h = ZLp n E nt nw tail hs t (abSr E nw tail t ta L s).2.1 (abSr E nw tail t ta L s).2.2 := by
 obtain ⟨q, hq⟩ : ∃ q : Nat, L.tr t = (q : Int) := ⟨(L.tr t).toNat, by omega⟩
 have fa := ZDz n tail (abN E t (L.tr t))
 have h1 := ldS nt nw hs s ta (i64w (abA tail (abN E t (L.tr t)) + 2)) hta hnt hnw
 have hna : nadd 0 (L.tr t).toNat = (L.tr t).toNat := by simp [ZAO]
 refine sE Tryz.func259 ic259_eq [.ca 8 4] fun G hP hA => ?_
 unfold evF ic259 abSr
 by_cases ez : rdV nw (i64w (abA tail (abN E t (L.tr t)) + 2)) s = 0
 ·simp only [ez, decide_true, pick]
  conv => whnf
  refine g2 fa h1 ?_
  rw [hna]
  conv => whnf
  refine g2 fa h1 ?_
  refine fQ ?_ ?_
  ·rfl
  ·exact ⟨ZAB, ZAB, rfl, ZAB, ZAB, ⟨rfl, rfl, fun j hj => by simp only [Nat.zero_add, ZDR, ZDS, ZDT, ZDU, ZAs] <;> rfl⟩, trivial⟩
 by_cases el : L.tr t + 1 = (E : Int)
 ·simp only [ez, el, decide_true, decide_false, pick]
  conv => whnf
  refine g2 fa h1 ?_
  rw [hna]
  conv => whnf
  refine g2 fa h1 ?_
  refine fQ ?_ ?_
  ·rfl
  ·exact ⟨ZAB, ZAB, rfl, ZAB, ZAB, ⟨rfl, rfl, fun j hj => by simp only [Nat.zero_add, ZDR, ZDS, ZDT, ZDU, ZAs, el] <;> rfl⟩, trivial⟩
 ·simp only [ez, el, decide_false, pick]
  conv => whnf
  refine g2 fa h1 ?_
  rw [hna]
  conv => whnf
  refine g2 fa h1 ?_
  refine fQ ?_ ?_
  ·rfl
  ·exact ⟨ZAB, ZAB, rfl, ZAB, ZAB, ⟨rfl, rfl, fun j hj => by simp only [Nat.zero_add, ZDR, ZDS, ZDT, ZDU, ZAs] <;> rfl⟩, trivial⟩
theorem ZN2 (n E nt nw t ta : Nat) (tail : Int) (hs : Nat -> Int) (late : Bool) (L : AL) (s : PS) (ht : t < n) (hta : ta < nt) (hnt : nt <= 64) (hn : n <= 64) (hE : E <= 8) (hnw : nw <= 4096) (htr : L.sp t = 0 -> 0 <= L.tr t /\ L.tr t < E) :
  ZAE Tryz.prog 255 (ZLp n E nt nw tail hs t L s) 6 [.l (.p 0 0 0 0), .l (.p 4 4 t 0), .l (.s 5 1 0 E 0), .l (.v (.int .i64 ta)), .l (.v (.bool late))] fun x h k =>
   x = didO (abLk E nw tail t ta late L s).1 /\ k = 6 /\ h = ZLp n E nt nw tail hs t (abLk E nw tail t ta late L s).2.1 (abLk E nw tail t ta late L s).2.2 := by
 have fno := ZDz n tail (L.no t)
 have fot := ZDz n tail (L.ot t)
 refine sE Tryz.func255 ic255_eq [.ca 10 4] fun G hP hA => ?_
 unfold evF ic255 abLk
 by_cases e0 : L.sp t = 0
 ·have h1 := ZN1 n E nt nw t ta tail hs L s ht hta hnt hn hE hnw (htr e0)
  simp only [e0, decide_true, decide_false, pick, Bool.not_true, Bool.not_false, Bool.true_or, Bool.or_true, Bool.false_or, Bool.or_false, Bool.true_and, Bool.and_true, Bool.false_and, Bool.and_false, abNx]
  generalize abSr E nw tail t ta L s = r at h1 ⊢
  conv => whnf
  refine g2 fno h1 ?_
  exact fA
 by_cases e1 : L.sp t = 1
 ·have h1 := stS nt nw hs s ta (i64w ((abA tail (L.no t)) + 2)) 1 hta hnt hnw
  simp only [Int.reduceEq, e0, e1, decide_true, decide_false, pick, Bool.not_true, Bool.not_false, Bool.true_or, Bool.or_true, Bool.false_or, Bool.or_false, Bool.true_and, Bool.and_true, Bool.false_and, Bool.and_false, abNx]
  conv => whnf
  refine g2 fno h1 ?_
  refine fQ ?_ ?_
  ·rfl
  ·exact ⟨ZAB, ZAB, rfl, ZAB, ZAB, ⟨rfl, rfl, fun j hj => by simp only [Nat.zero_add, ZDR, ZDS, ZDT, ZDU, ZAs, e1] <;> rfl⟩, trivial⟩
 by_cases e2 : L.sp t = 2
 ·have h1 := stS nt nw hs s ta (abA tail (L.no t)) 0 hta hnt hnw
  simp only [Int.reduceEq, e0, e1, e2, decide_true, decide_false, pick, Bool.not_true, Bool.not_false, Bool.true_or, Bool.or_true, Bool.false_or, Bool.or_false, Bool.true_and, Bool.and_true, Bool.false_and, Bool.and_false, abNx]
  conv => whnf
  refine g2 fno h1 ?_
  refine fQ ?_ ?_
  ·rfl
  ·exact ⟨ZAB, ZAB, rfl, ZAB, ZAB, ⟨rfl, rfl, fun j hj => by simp only [Nat.zero_add, ZDR, ZDS, ZDT, ZDU, ZAs, e2] <;> rfl⟩, trivial⟩
 by_cases e3 : L.sp t = 3
 ·have h1 := stS nt nw hs s ta (i64w ((abA tail (L.no t)) + 1)) 0 hta hnt hnw
  simp only [Int.reduceEq, e0, e1, e2, e3, decide_true, decide_false, pick, Bool.not_true, Bool.not_false, Bool.true_or, Bool.or_true, Bool.false_or, Bool.or_false, Bool.true_and, Bool.and_true, Bool.false_and, Bool.and_false, abNx]
  conv => whnf
  refine g2 fno h1 ?_
  refine fQ ?_ ?_
  ·rfl
  ·exact ⟨ZAB, ZAB, rfl, ZAB, ZAB, ⟨rfl, rfl, fun j hj => by simp only [Nat.zero_add, ZDR, ZDS, ZDT, ZDU, ZAs, e3] <;> rfl⟩, trivial⟩
 by_cases e4 : L.sp t = 4
 ·have h1 := swS nt nw hs s ta tail (u32w (L.no t)) hta hnt hnw
  by_cases ez : i64w (rdV nw tail s) = 0
  ·have ez' : IntKind.i64.wrap (rdV nw tail s) = 0 := ez
   simp only [Int.reduceEq, e0, e1, e2, e3, e4, ez, decide_true, decide_false, pick, Bool.not_true, Bool.not_false, Bool.true_or, Bool.or_true, Bool.false_or, Bool.or_false, Bool.true_and, Bool.and_true, Bool.false_and, Bool.and_false, abNx]
   conv => whnf
   refine g2 fno h1 ?_
   refine fQ ?_ ?_
   ·rfl
   ·exact ⟨ZAB, ZAB, rfl, ZAB, ZAB, ⟨rfl, rfl, fun j hj => by simp only [Nat.zero_add, ZDR, ZDS, ZDT, ZDU, ZAs, ez'] <;> rfl⟩, trivial⟩
  ·simp only [Int.reduceEq, e0, e1, e2, e3, e4, ez, decide_true, decide_false, pick, Bool.not_true, Bool.not_false, Bool.true_or, Bool.or_true, Bool.false_or, Bool.or_false, Bool.true_and, Bool.and_true, Bool.false_and, Bool.and_false, abNx]
   conv => whnf
   refine g2 fno h1 ?_
   refine fQ ?_ ?_
   ·rfl
   ·exact ⟨ZAB, ZAB, rfl, ZAB, ZAB, ⟨rfl, rfl, fun j hj => by simp only [Nat.zero_add, ZDR, ZDS, ZDT, ZDU, ZAs] <;> rfl⟩, trivial⟩
 by_cases e5 : L.sp t = 5
 ·have h1 := stS nt nw hs s ta (i64w (abA tail (L.ot t) + 1)) (u32w (L.no t)) hta hnt hnw
  simp only [Int.reduceEq, e0, e1, e2, e3, e4, e5, decide_true, decide_false, pick, Bool.not_true, Bool.not_false, Bool.true_or, Bool.or_true, Bool.false_or, Bool.or_false, Bool.true_and, Bool.and_true, Bool.false_and, Bool.and_false, abNx]
  conv => whnf
  refine g3 fno fot h1 ?_
  refine fQ ?_ ?_
  ·rfl
  ·exact ⟨ZAB, ZAB, rfl, ZAB, ZAB, ⟨rfl, rfl, fun j hj => by simp only [Nat.zero_add, ZDR, ZDS, ZDT, ZDU, ZAs, e5] <;> rfl⟩, trivial⟩
 by_cases e6 : L.sp t = 6
 ·have h1 := ldS nt nw hs s ta (abA tail (L.no t)) hta hnt hnw
  by_cases ez : rdV nw (abA tail (L.no t)) s = 0
  ·cases late with
   | true =>
    simp only [Int.reduceEq, e0, e1, e2, e3, e4, e5, e6, ez, decide_true, decide_false, pick, Bool.not_true, Bool.not_false, Bool.true_or, Bool.or_true, Bool.false_or, Bool.or_false, Bool.true_and, Bool.and_true, Bool.false_and, Bool.and_false, abNx]
    conv => whnf
    refine g2 fno h1 ?_
    refine fQ ?_ ?_
    ·rfl
    ·exact ⟨ZAB, ZAB, rfl, ZAB, ZAB, ⟨rfl, rfl, fun j hj => by simp only [Nat.zero_add, ZDR, ZDS, ZDT, ZDU, ZAs, e6] <;> rfl⟩, trivial⟩
   | false =>
    simp only [Int.reduceEq, e0, e1, e2, e3, e4, e5, e6, ez, decide_true, decide_false, pick, Bool.not_true, Bool.not_false, Bool.true_or, Bool.or_true, Bool.false_or, Bool.or_false, Bool.true_and, Bool.and_true, Bool.false_and, Bool.and_false, abNx]
    conv => whnf
    refine g2 fno h1 ?_
    exact fA
  ·simp only [Int.reduceEq, e0, e1, e2, e3, e4, e5, e6, ez, decide_true, decide_false, pick, Bool.not_true, Bool.not_false, Bool.true_or, Bool.or_true, Bool.false_or, Bool.or_false, Bool.true_and, Bool.and_true, Bool.false_and, Bool.and_false, abNx]
   conv => whnf
   refine g2 fno h1 ?_
   exact fA
 by_cases e7 : L.sp t = 7
 ·have h1 := caS nt nw hs s ta (abA tail (L.no t)) 0 2 hta hnt hnw
  cases ec : casB nw (abA tail (L.no t)) 0 s with
  | true =>
   rw [ec] at h1
   simp only [Int.reduceEq, e0, e1, e2, e3, e4, e5, e6, e7, ec, decide_true, decide_false, pick, Bool.not_true, Bool.not_false, Bool.true_or, Bool.or_true, Bool.false_or, Bool.or_false, Bool.true_and, Bool.and_true, Bool.false_and, Bool.and_false, abNx]
   conv => whnf
   refine g2 fno h1 ?_
   exact fA
  | false =>
   rw [ec] at h1
   simp only [Int.reduceEq, e0, e1, e2, e3, e4, e5, e6, e7, ec, decide_true, decide_false, pick, Bool.not_true, Bool.not_false, Bool.true_or, Bool.or_true, Bool.false_or, Bool.or_false, Bool.true_and, Bool.and_true, Bool.false_and, Bool.and_false, abNx]
   conv => whnf
   refine g2 fno h1 ?_
   exact fA
 ·simp only [e0, e1, e2, e3, e4, e5, e6, e7, decide_true, decide_false, pick, Bool.not_true, Bool.not_false, Bool.true_or, Bool.or_true, Bool.false_or, Bool.or_false, Bool.true_and, Bool.and_true, Bool.false_and, Bool.and_false, abNx]
  conv => whnf
  refine g1 fno ?_
  refine fQ ?_ ?_
  ·rfl
  ·exact ⟨ZAB, ZAB, rfl, ZAB, ZAB, ⟨rfl, rfl, fun j hj => by simp only [Nat.zero_add, ZDR, ZDS, ZDT, ZDU, ZAs] <;> rfl⟩, trivial⟩
theorem ZN3 (n E nt nw t ta : Nat) (tail : Int) (hs : Nat -> Int) (L : AL) (s : PS) (ht : t < n) (hta : ta < nt) (hnt : nt <= 64) (hn : n <= 64) (hnw : nw <= 4096) :
  ZAE Tryz.prog 257 (ZE7 n E nt nw tail hs L s) 5 [.l (.p 0 0 0 0), .l (.p 4 4 t 0), .l (.v (.int .i64 ta))] fun x h k =>
   x = sInt .i64 (abUl nw tail t ta L s).1 /\ k = 5 /\ h = ZE7 n E nt nw tail hs (abUl nw tail t ta L s).2.1 (abUl nw tail t ta L s).2.2 := by
 have fno := ZDz n tail (L.no t)
 have fot := ZDz n tail (L.ot t)
 refine sE Tryz.func257 ic257_eq [.t 6] fun G hP hA => ?_
 unfold evF ic257 abUl
 by_cases e0 : L.sp t = 0
 ·have h1 := ldS nt nw hs s ta (i64w ((abA tail (L.no t)) + 1)) hta hnt hnw
  by_cases ez : i64w (rdV nw (i64w ((abA tail (L.no t)) + 1)) s) = 0
  ·have ez' : IntKind.i64.wrap (rdV nw (i64w ((abA tail (L.no t)) + 1)) s) = 0 := ez
   simp only [e0, ez, decide_true, decide_false, pick, Bool.not_true, Bool.not_false, Bool.true_or, Bool.or_true, Bool.false_or, Bool.or_false, Bool.true_and, Bool.and_true, Bool.false_and, Bool.and_false, abNx]
   conv => whnf
   refine g2 fno h1 ?_
   refine fQ ?_ ?_
   ·rfl
   ·exact ⟨ZAB, rfl, ZAB, ZAB, ⟨rfl, rfl, fun j hj => by simp only [Nat.zero_add, ZDR, ZDS, ZDT, ZDU, ZAs, ez'] <;> rfl⟩, trivial⟩
  ·have ez' : ¬ IntKind.i64.wrap (rdV nw (i64w ((abA tail (L.no t)) + 1)) s) = 0 := ez
   simp only [e0, ez, decide_true, decide_false, pick, Bool.not_true, Bool.not_false, Bool.true_or, Bool.or_true, Bool.false_or, Bool.or_false, Bool.true_and, Bool.and_true, Bool.false_and, Bool.and_false, abNx]
   conv => whnf
   refine g2 fno h1 ?_
   refine fQ ?_ ?_
   ·rfl
   ·exact ⟨ZAB, rfl, ZAB, ZAB, ⟨rfl, rfl, fun j hj => by simp only [Nat.zero_add, ZDR, ZDS, ZDT, ZDU, ZAs] <;> rfl⟩, trivial⟩
 by_cases e2 : L.sp t = 2
 ·have h1 := ldS nt nw hs s ta (i64w ((abA tail (L.no t)) + 1)) hta hnt hnw
  by_cases ez : i64w (rdV nw (i64w ((abA tail (L.no t)) + 1)) s) = 0
  ·have ez' : IntKind.i64.wrap (rdV nw (i64w ((abA tail (L.no t)) + 1)) s) = 0 := ez
   simp only [Int.reduceEq, e0, e2, ez, decide_true, decide_false, pick, Bool.not_true, Bool.not_false, Bool.true_or, Bool.or_true, Bool.false_or, Bool.or_false, Bool.true_and, Bool.and_true, Bool.false_and, Bool.and_false, abNx]
   conv => whnf
   refine g2 fno h1 ?_
   refine fQ ?_ ?_
   ·rfl
   ·exact ⟨ZAB, rfl, ZAB, ZAB, ⟨rfl, rfl, fun j hj => by simp only [Nat.zero_add, ZDR, ZDS, ZDT, ZDU, ZAs, ez'] <;> rfl⟩, trivial⟩
  ·have ez' : ¬ IntKind.i64.wrap (rdV nw (i64w ((abA tail (L.no t)) + 1)) s) = 0 := ez
   simp only [Int.reduceEq, e0, e2, ez, decide_true, decide_false, pick, Bool.not_true, Bool.not_false, Bool.true_or, Bool.or_true, Bool.false_or, Bool.or_false, Bool.true_and, Bool.and_true, Bool.false_and, Bool.and_false, abNx]
   conv => whnf
   refine g2 fno h1 ?_
   refine fQ ?_ ?_
   ·rfl
   ·exact ⟨ZAB, rfl, ZAB, ZAB, ⟨rfl, rfl, fun j hj => by simp only [Nat.zero_add, ZDR, ZDS, ZDT, ZDU, ZAs] <;> rfl⟩, trivial⟩
 by_cases e1 : L.sp t = 1
 ·have h1 := caS nt nw hs s ta tail (u32w (L.no t)) 0 hta hnt hnw
  cases ec : casB nw tail (u32w (L.no t)) s with
  | true =>
   rw [ec] at h1
   simp only [Int.reduceEq, e0, e2, e1, ec, decide_true, decide_false, pick, Bool.not_true, Bool.not_false, Bool.true_or, Bool.or_true, Bool.false_or, Bool.or_false, Bool.true_and, Bool.and_true, Bool.false_and, Bool.and_false, abNx]
   conv => whnf
   refine g3 fno fot h1 ?_
   refine fQ ?_ ?_
   ·rfl
   ·exact ⟨ZAB, rfl, ZAB, ZAB, ⟨rfl, rfl, fun j hj => by simp only [Nat.zero_add, ZDR, ZDS, ZDT, ZDU, ZAs] <;> rfl⟩, trivial⟩
  | false =>
   rw [ec] at h1
   simp only [Int.reduceEq, e0, e2, e1, ec, decide_true, decide_false, pick, Bool.not_true, Bool.not_false, Bool.true_or, Bool.or_true, Bool.false_or, Bool.or_false, Bool.true_and, Bool.and_true, Bool.false_and, Bool.and_false, abNx]
   conv => whnf
   refine g3 fno fot h1 ?_
   refine fQ ?_ ?_
   ·rfl
   ·exact ⟨ZAB, rfl, ZAB, ZAB, ⟨rfl, rfl, fun j hj => by simp only [Nat.zero_add, ZDR, ZDS, ZDT, ZDU, ZAs] <;> rfl⟩, trivial⟩
 by_cases e3 : L.sp t = 3
 ·have h1 := caS nt nw hs s ta (abA tail (L.ot t)) 0 1 hta hnt hnw
  cases ec : casB nw (abA tail (L.ot t)) 0 s with
  | true =>
   rw [ec] at h1
   simp only [Int.reduceEq, e0, e2, e1, e3, ec, decide_true, decide_false, pick, Bool.not_true, Bool.not_false, Bool.true_or, Bool.or_true, Bool.false_or, Bool.or_false, Bool.true_and, Bool.and_true, Bool.false_and, Bool.and_false, abNx]
   conv => whnf
   refine g3 fno fot h1 ?_
   refine fQ ?_ ?_
   ·rfl
   ·exact ⟨ZAB, rfl, ZAB, ZAB, ⟨rfl, rfl, fun j hj => by simp only [Nat.zero_add, ZDR, ZDS, ZDT, ZDU, ZAs] <;> rfl⟩, trivial⟩
  | false =>
   rw [ec] at h1
   simp only [Int.reduceEq, e0, e2, e1, e3, ec, decide_true, decide_false, pick, Bool.not_true, Bool.not_false, Bool.true_or, Bool.or_true, Bool.false_or, Bool.or_false, Bool.true_and, Bool.and_true, Bool.false_and, Bool.and_false, abNx]
   conv => whnf
   refine g3 fno fot h1 ?_
   refine fQ ?_ ?_
   ·rfl
   ·exact ⟨ZAB, rfl, ZAB, ZAB, ⟨rfl, rfl, fun j hj => by simp only [Nat.zero_add, ZDR, ZDS, ZDT, ZDU, ZAs] <;> rfl⟩, trivial⟩
 by_cases e4 : L.sp t = 4
 ·have h1 := stS nt nw hs s ta (i64w ((abA tail (L.no t)) + 2)) 0 hta hnt hnw
  simp only [Int.reduceEq, e0, e2, e1, e3, e4, decide_true, decide_false, pick, Bool.not_true, Bool.not_false, Bool.true_or, Bool.or_true, Bool.false_or, Bool.or_false, Bool.true_and, Bool.and_true, Bool.false_and, Bool.and_false, abNx]
  conv => whnf
  refine g2 fno h1 ?_
  refine fQ ?_ ?_
  ·rfl
  ·exact ⟨ZAB, rfl, ZAB, ZAB, ⟨rfl, rfl, fun j hj => by simp only [Nat.zero_add, ZDR, ZDS, ZDT, ZDU, ZAs, ZPX] <;> rfl⟩, trivial⟩
 by_cases e5 : L.sp t = 5
 ·have h1 := stS nt nw hs s ta (i64w ((abA tail (L.no t)) + 2)) 0 hta hnt hnw
  simp only [Int.reduceEq, e0, e2, e1, e3, e4, e5, decide_true, decide_false, pick, Bool.not_true, Bool.not_false, Bool.true_or, Bool.or_true, Bool.false_or, Bool.or_false, Bool.true_and, Bool.and_true, Bool.false_and, Bool.and_false, abNx]
  conv => whnf
  refine g2 fno h1 ?_
  exact fA
 ·simp only [e0, e2, e1, e3, e4, e5, decide_true, decide_false, pick, Bool.not_true, Bool.not_false, Bool.true_or, Bool.or_true, Bool.false_or, Bool.or_false, Bool.true_and, Bool.and_true, Bool.false_and, Bool.and_false, abNx]
  conv => whnf
  refine g1 fno ?_
  exact fA
theorem ZN4 (n E nt nw t ta : Nat) (tail now : Int) (hs : Nat -> Int) (L : AL) (s : PS) (ht : t < n) (hta : ta < nt) (hnt : nt <= 64) (hn : n <= 64) (hE : E <= 8) (hnw : nw <= 4096) (hok : abOk n E L) :
  ZAE Tryz.prog 252 (ZE7 n E nt nw tail hs L s) 5 [.l (.p 0 0 0 0), .l (.v (.int .i64 t)), .l (.v (.int .i64 ta)), .l (.v (.int .i64 now))] fun x h k =>
   x = didO (ZET t (ZAz E nw tail t ta now L s)).1 /\ k = 5 /\ h = ZE7 n E nt nw tail hs (ZET t (ZAz E nw tail t ta now L s)).2.1 (ZET t (ZAz E nw tail t ta now L s)).2.2 := by
 have hst := ZAy n L.ss.st L.ss.dl true false t ht hn
 have hdl := ZF6 n L.ss.st L.ss.dl true false t
 have hin : inW n (t : Int) = true := by simp [inW]; omega
 simp only [dlV, hin, pick, Int.toNat_natCast] at hdl
 have hrow := ZJN n E t ht hn hE
 refine sE Tryz.func252 ic252_eq [.ca 8 4] fun G hP hA => ?_
 unfold evF ic252 ZAz ZET
 by_cases e1 : L.ss.st t = 1
 ·rw [e1] at hst
  have hlk := fun late => ZN2 n E nt nw t ta tail hs late L s ht hta hnt hn hE hnw (hok t ht e1)
  simp only [e1, decide_true, pick]
  by_cases d0 : 0 <= L.ss.dl t
  ·have hlk := hlk (decide (L.ss.dl t <= now))
   simp only [ZHY, d0, decide_true, Bool.true_and]
   generalize abLk E nw tail t ta (decide (L.ss.dl t <= now)) L s = r at hlk ⊢
   have hen := ZAQ n r.2.1.ss.st r.2.1.ss.dl true false t r.1.e ht hn
   cases eb : enB r.2.1.ss.st t r.1.e with
   | true =>
    rw [eb] at hen
    simp only [pick]
    conv => whnf
    refine g5 hst hdl hrow hlk hen ?_
    refine fQ ?_ ?_
    ·rfl
    ·exact ⟨ZAB, rfl, ZAB, ZAB, ⟨rfl, rfl, fun j hj => by simp only [Nat.zero_add, ZPX]; rw [ZQi]⟩, trivial⟩
   | false =>
    rw [eb] at hen
    simp only [pick]
    conv => whnf
    refine g5 hst hdl hrow hlk hen ?_
    exact fA
  ·have hlk := hlk false
   simp only [ZHY, d0, decide_false, Bool.false_and]
   generalize abLk E nw tail t ta false L s = r at hlk ⊢
   have hen := ZAQ n r.2.1.ss.st r.2.1.ss.dl true false t r.1.e ht hn
   cases eb : enB r.2.1.ss.st t r.1.e with
   | true =>
    rw [eb] at hen
    simp only [pick]
    conv => whnf
    refine g5 hst hdl hrow hlk hen ?_
    refine fQ ?_ ?_
    ·rfl
    ·exact ⟨ZAB, rfl, ZAB, ZAB, ⟨rfl, rfl, fun j hj => by simp only [Nat.zero_add, ZPX]; rw [ZQi]⟩, trivial⟩
   | false =>
    rw [eb] at hen
    simp only [pick]
    conv => whnf
    refine g5 hst hdl hrow hlk hen ?_
    exact fA
 by_cases e3 : L.ss.st t = 3
 ·rw [e3] at hst
  have hul := ZN3 n E nt nw t ta tail hs L s ht hta hnt hn hnw
  simp only [Int.reduceEq, e3, decide_true, decide_false, pick]
  generalize abUl nw tail t ta L s = r at hul ⊢
  have hen := ZAQ n r.2.1.ss.st r.2.1.ss.dl true false t r.1 ht hn
  cases eb : enB r.2.1.ss.st t r.1 with
  | true =>
   rw [eb] at hen
   simp only [pick, evD, eb]
   conv => whnf
   refine g3 hst hul hen ?_
   refine fQ ?_ ?_
   ·rfl
   ·exact ⟨ZAB, rfl, ZAB, ZAB, ⟨rfl, rfl, fun j hj => by simp only [Nat.zero_add, ZPX]; rw [ZQi]⟩, trivial⟩
  | false =>
   rw [eb] at hen
   simp only [pick, evD, eb]
   conv => whnf
   refine g3 hst hul hen ?_
   exact fA
 ·have hen := ZAQ n L.ss.st L.ss.dl true false t 0 ht hn
  have eb : enB L.ss.st t 0 = false := by simp [enB, ZCP, pick, e1, e3]
  rw [eb] at hen
  simp only [e1, e3, eb, decide_false, pick, evD]
  conv => whnf
  refine g2 hst hen ?_
  exact fA
theorem ZFx (n : Nat) (st dl : Nat -> Int) (tm pr : Bool) (t d : Int) (hn : n <= 64) : ZAE Tryz.prog 210 [(0, some (ZBr n st dl tm pr))] 1 [.l (.p 0 0 0 0), .l (.v (.int .i64 t)), .l (.v (.int .i64 d))] fun x h k => x = sInt .i64 (lkE n st tm t d) /\ k = 1 /\ h = [(0, some (ZBr n (lkSt n st tm t d) (lkDl n st dl tm t d) tm pr))] := by
 have hth := ZCX n st dl tm pr t
 refine sG (ZAV (ZBN n st dl tm pr) 2 0 (by omega)) Tryz.func210 ic210_eq [.t 6] fun G hP hA => ?_
 unfold evF ic210 lkSt lkDl
 rcases ZAY n t with ⟨hb, i, hi, rfl⟩ | ⟨hb, ho⟩
 ·rw [hb] at hth
  by_cases h1 : d < -1
  ·have e : lkE n st tm i d = 1 := by simp [lkE, hb, h1, pick]
   simp only [e, show ¬ (1 : Int) = 0 by omega, decide_false, pick]
   conv => whnf
   refine g1 hth ?_
   (refine ZAD (H := (ZBN n st dl tm pr)) (np := 2) 0 0 (Nat.le_of_ble_eq_true rfl) ?_; conv => whnf); (refine zK ?_)
   exact fA
  by_cases h2 : 0 <= d
  ·cases tm with
   | false =>
    have e : lkE n st false i d = 1 := by simp [lkE, hb, h2, pick]
    simp only [e, show ¬ (1 : Int) = 0 by omega, decide_false, pick]
    conv => whnf
    refine g1 hth ?_
    (refine ZAD (H := (ZBN n st dl false pr)) (np := 2) 0 0 (Nat.le_of_ble_eq_true rfl) ?_; conv => whnf); (refine zK ?_)
    exact fA
   | true =>
    by_cases h3 : st i = 0
    ·have e : lkE n st true i d = 0 := by simp [lkE, hb, h1, h3, pick]
     simp only [e, decide_true, pick]
     conv => whnf
     refine g1 hth ?_
     (refine ZAD (H := (ZBN n (updF st i 1) (updF dl i d) true pr)) (np := 2) 0 0 (Nat.le_of_ble_eq_true rfl) ?_; conv => whnf); (refine ⟨⟨rfl, by omega, rfl, rfl, ?_, rfl⟩, ?_⟩)
     ·exact ⟨rfl, ⟨rfl, rfl, fun j hj => updS st dl i 1 d j⟩, trivial⟩
     conv => whnf
     exact fA
    ·have e : lkE n st true i d = 2 := by simp [lkE, hb, h1, h3, pick]
     simp only [e, show ¬ (2 : Int) = 0 by omega, decide_false, pick]
     conv => whnf
     refine g1 hth ?_
     (refine ZAD (H := (ZBN n st dl true pr)) (np := 2) 0 0 (Nat.le_of_ble_eq_true rfl) ?_; conv => whnf); (refine zK ?_)
     exact fA
  ·by_cases h3 : st i = 0
   ·have e : lkE n st tm i d = 0 := by simp [lkE, hb, h1, h2, h3, pick]
    simp only [e, decide_true, pick]
    conv => whnf
    refine g1 hth ?_
    (refine ZAD (H := (ZBN n (updF st i 1) (updF dl i d) tm pr)) (np := 2) 0 0 (Nat.le_of_ble_eq_true rfl) ?_; conv => whnf); (refine ⟨⟨rfl, by omega, rfl, rfl, ?_, rfl⟩, ?_⟩)
    ·exact ⟨rfl, ⟨rfl, rfl, fun j hj => updS st dl i 1 d j⟩, trivial⟩
    conv => whnf
    exact fA
   ·have e : lkE n st tm i d = 2 := by simp [lkE, hb, h1, h2, h3, pick]
    simp only [e, show ¬ (2 : Int) = 0 by omega, decide_false, pick]
    conv => whnf
    refine g1 hth ?_
    (refine ZAD (H := (ZBN n st dl tm pr)) (np := 2) 0 0 (Nat.le_of_ble_eq_true rfl) ?_; conv => whnf); (refine zK ?_)
    exact fA
 ·rw [hb] at hth
  have e : lkE n st tm t d = 1 := by simp [lkE, hb, pick]
  simp only [e, show ¬ (1 : Int) = 0 by omega, decide_false, pick]
  conv => whnf
  refine g1 hth ?_
  (refine ZAD (H := (ZBN n st dl tm pr)) (np := 2) 0 0 (Nat.le_of_ble_eq_true rfl) ?_; conv => whnf); (refine zK ?_)
  exact fA
theorem ZE8 (n : Nat) (st dl : Nat -> Int) (tm pr : Bool) (t : Int) (hn : n <= 64) : ZAE Tryz.prog 217 (ZBN n st dl tm pr) 2 [.l (.p 0 0 0 0), .l (.v (.int .i64 t))] fun x h k => x = sInt .i64 (hoE n st t) /\ k = 2 /\ h = ZBN n st dl tm pr := by
 have hth := ZCX n st dl tm pr t
 refine sE Tryz.func217 ic217_eq [.t 4] fun G hP hA => ?_
 unfold evF ic217
 rcases ZAY n t with ⟨hb, i, hi, rfl⟩ | ⟨hb, ho⟩
 ·rw [hb] at hth
  by_cases h0 : st i = 0
  ·have e : hoE n st i = 3 := by simp [hoE, hb, h0, pick]
   rw [e]
   conv => whnf
   refine g1 hth ?_
   exact fA
  by_cases h2 : st i = 2
  ·have e : hoE n st i = 0 := by simp [hoE, hb, h2, pick]
   rw [e]
   conv => whnf
   refine g1 hth ?_
   exact fA
  ·have e : hoE n st i = 2 := by simp [hoE, hb, h0, h2, pick]
   rw [e]
   conv => whnf
   refine g1 hth ?_
   exact fA
 ·rw [hb] at hth
  have e : hoE n st t = 1 := by simp [hoE, hb, pick]
  rw [e]
  conv => whnf
  refine g1 hth ?_
  exact fA
theorem ZR4 (f g : Nat -> Int) (i : Nat) (u : Int) (j : Nat) : mrgL (j = i) (ZAI (ZFl f g j) 0 [.int .i64 u]) (ZFl f g j) = ZFl (updF f i u) g j := by
 simp only [ZFl, updF, ZAI, setL, mrgL, ZA0]
 by_cases h : j = i <;> simp [h]
theorem ZEV (n : Nat) (st dl : Nat -> Int) (tm pr : Bool) (t : Int) (hn : n <= 64) : ZAE Tryz.prog 214 [(0, some (ZBr n st dl tm pr))] 1 [.l (.p 0 0 0 0), .l (.v (.int .i64 t))] fun x h k => x = sInt .i64 (hoE n st t) /\ k = 1 /\ h = [(0, some (ZBr n (ulSt n st t 3) dl tm pr))] := by
 have hho := ZE8 n st dl tm pr t hn
 refine sG (ZAV (ZBN n st dl tm pr) 2 0 (by omega)) Tryz.func214 ic214_eq [.t 4] fun G hP hA => ?_
 unfold evF ic214 ulSt
 by_cases e : hoE n st t = 0
 ·obtain ⟨hb, hs⟩ := ZR1 e
  obtain ⟨_, i, hi, rfl⟩ | ⟨hb', _⟩ := ZAY n t
  ·simp only [e, decide_true, pick, Int.toNat_natCast]
   rw [e] at hho
   conv => whnf
   refine g1 hho ?_
   (refine ZAD (H := (ZBN n (updF st i 3) dl tm pr)) (np := 2) 0 0 (Nat.le_of_ble_eq_true rfl) ?_; conv => whnf); (refine ⟨⟨rfl, by omega, rfl, rfl, ?_, rfl⟩, ?_⟩)
   ·exact ⟨rfl, ⟨rfl, rfl, fun j hj => ZR4 st dl i 3 j⟩, trivial⟩
   conv => whnf
   exact fA
  ·rw [hb] at hb'; cases hb'
 ·simp only [e, decide_false, pick]
  conv => whnf
  refine g1 hho ?_
  (refine ZAD (H := (ZBN n st dl tm pr)) (np := 2) 0 0 (Nat.le_of_ble_eq_true rfl) ?_; conv => whnf); (refine zK ?_)
  exact fA
def prE (n : Nat) (st : Nat -> Int) (pr : Bool) (t : Int) : Int := pick pr (hoE n st t) 1
def prSt (n : Nat) (st : Nat -> Int) (pr : Bool) (t : Int) : Nat -> Int := pick pr (ulSt n st t 4) st
theorem ZH8 (n : Nat) (st dl : Nat -> Int) (tm pr : Bool) (t : Int) (hn : n <= 64) : ZAE Tryz.prog 211 [(0, some (ZBr n st dl tm pr))] 1 [.l (.p 0 0 0 0), .l (.v (.int .i64 t))] fun x h k => x = sInt .i64 (prE n st pr t) /\ k = 1 /\ h = [(0, some (ZBr n (prSt n st pr t) dl tm pr))] := by
 have hho := ZE8 n st dl tm pr t hn
 refine sG (ZAV (ZBN n st dl tm pr) 2 0 (by omega)) Tryz.func211 ic211_eq [.t 4] fun G hP hA => ?_
 unfold evF ic211 prE prSt ulSt
 cases pr with
 | false =>
  simp only [pick]
  conv => whnf
  refine g1 hho ?_
  (refine ZAD (H := (ZBN n st dl tm false)) (np := 2) 0 0 (Nat.le_of_ble_eq_true rfl) ?_; conv => whnf); (refine zK ?_)
  exact fA
 | true =>
  by_cases e : hoE n st t = 0
  ·obtain ⟨hb, hs⟩ := ZR1 e
   obtain ⟨_, i, hi, rfl⟩ | ⟨hb', _⟩ := ZAY n t
   ·simp only [e, decide_true, pick, Int.toNat_natCast]
    rw [e] at hho
    conv => whnf
    refine g1 hho ?_
    (refine ZAD (H := (ZBN n (updF st i 4) dl tm true)) (np := 2) 0 0 (Nat.le_of_ble_eq_true rfl) ?_; conv => whnf); (refine ⟨⟨rfl, by omega, rfl, rfl, ?_, rfl⟩, ?_⟩)
    ·exact ⟨rfl, ⟨rfl, rfl, fun j hj => ZR4 st dl i 4 j⟩, trivial⟩
    conv => whnf
    exact fA
   ·rw [hb] at hb'; cases hb'
  ·simp only [e, decide_false, pick]
   conv => whnf
   refine g1 hho ?_
   (refine ZAD (H := (ZBN n st dl tm true)) (np := 2) 0 0 (Nat.le_of_ble_eq_true rfl) ?_; conv => whnf); (refine zK ?_)
   exact fA
theorem ZAP {P : Program} {G : Ctx} {t : TypeId} {name : String} {fid : FuncId} {k c k2 : Nat} {cs : List LV} {xs : List AV} {h : Heap} {n : Nat} {K : SV -> Heap -> Nat -> Prop} (hP : G.P = P)
  (hm : ∀ (a : Addr) (args : Array Value) (w : World) (v : Value), w.cell? (a.add c) = some v -> (callMethod (.iface t (.pointer (some a))) name args).run P w = .ok (.enter fid (#[v] ++ args)) w)
  (hk : hget h k = some (.st cs)) (hc : nth cs c = some (.p k2 0 0 0)) (hcall : CallP G fid (.l (.p k2 0 0 0) :: xs) h n K) : InvP G (.l (.i t k)) name xs h n K := by
 subst hP
 rw [ZCd] at hcall
 rw [ZD9]
 intro G' hG' ρ φ w g hr hxs
 obtain ⟨e1, e2, e3, ⟨ty, e4⟩, e5⟩ := g.hm.at_ k _ hk
 rw [ZAc] at hc
 have hcell : w.cell? ((adr (ρ k) 0).add c) = some ((LV.p k2 0 0 0).at ρ) := by
  by_cases h0 : c = 0
  ·subst h0
   simp [World.cell?, adr, Addr.add, e2, e4, hc]
  ·simp [World.cell?, adr, Addr.add, h0, e2, e4, hc]
 refine ⟨fid, _, hm _ _ _ _ hcell, ?_⟩
 have := hcall.2 G' hG' ρ φ w g (fun x hx => by
  rcases List.mem_cons.1 hx with rfl | hx
  ·exact e5 _ (List.mem_of_getElem? hc)
  ·exact hxs x hx)
 simpa [AV.at] using this
theorem ZBd (n : Nat) (st dl : Nat -> Int) (a b : Bool) : ZAE Tryz.prog 209 [(0, some (ZBr n st dl a b))] 1 [.l (.p 0 0 0 0)] fun x h k => x = sInt .i64 (n : Int) /\ k = 1 /\ h = [(0, some (ZBr n st dl a b))] := by
 refine sG (ZAV (ZBN n st dl a b) 2 0 (by omega)) Tryz.func209 ic209_eq [.t 2] fun G hP hA => ?_
 unfold evF ic209
 conv => whnf
 (refine ZAD (H := (ZBN n st dl a b)) (np := 2) 0 0 (Nat.le_of_ble_eq_true rfl) ?_; conv => whnf); (refine zK ?_)
 exact fA
def IvS (t : TypeId) (nm : String) (fid : FuncId) : Prop := ∀ (a : Addr) (args : Array Value) (w : World) (v : Value), w.cell? (a.add 0) = some v -> (callMethod (.iface t (.pointer (some a))) nm args).run Tryz.prog w = .ok (.enter fid (#[v] ++ args)) w
theorem ZAe {t : TypeId} {nm : String} {fid : FuncId} (e : ∀ (a : Addr) (args : Array Value) (w : World), (callMethod (.iface t (.pointer (some a))) nm args).run Tryz.prog w = (match w.cell? (a.add 0) with
   | some v => .ok (.enter fid (#[v] ++ args)) w
   | none => match w.farLoad Tryz.prog (a.add 0) false with
    | .ok (v, _) => .ok (.enter fid (#[v] ++ args)) w
    | .error h => .halt h w)) : IvS t nm fid := fun a args w v h => by rw [e, h]
theorem ZLF : IvS 221 "Len" 209 := ZAe fun a args w => by kernel_rfl
theorem ZJx : IvS 224 "Len" 209 := ZAe fun a args w => by kernel_rfl
theorem ZM3 : IvS 227 "Len" 209 := ZAe fun a args w => by kernel_rfl
theorem ZM4 : IvS 230 "Len" 209 := ZAe fun a args w => by kernel_rfl
theorem ZJy : IvS 233 "Len" 209 := ZAe fun a args w => by kernel_rfl
inductive K1 where
 | fl (nx ow : Int) (L : FL)
 | sl (tail : Int) (m : Nat) (L : SL)
 | cl (tail : Int) (L : CL)
 | mc (tail : Int) (L : ML)
 | ab (E : Nat) (tail : Int) (L : AL)
 | hi (tail : Int) (L : HL)
def K1.R (n : Nat) : K1 -> List Go.Sx.Loc -> Go.Sx.Loc -> List Nat -> World -> Prop
 | .fl nx ow L => ZAl (ZBt n nx ow L.ss.st L.ss.dl L.nu L.dr) 5
 | .sl tail m L => ZAl (ZA9 n tail m L.ss.st L.ss.dl L.nu L.sp) 4
 | .cl tail L => ZAl (ZDL n tail L.ss.st L.ss.dl L.no L.ah L.sp) 4
 | .mc tail L => ZAl (ZDM n tail L.ss.st L.ss.dl L.sp L.ot) 4
 | .ab E tail L => ZAl (ZBZ n E tail L.ss.st L.ss.dl L.sp L.tr L.no L.ot) 5
 | .hi tail L => ZAl (ZCU n tail L.ss.st L.ss.dl L.cl L.no L.ah L.la L.wo L.sp) 4
def K1.T : K1 -> Nat
 | .fl .. => 221
 | .sl .. => 224
 | .cl .. => 227
 | .mc .. => 230
 | .ab .. => 233
 | .hi .. => 236
def K1.F : K1 -> Nat
 | .fl .. => 213
 | .sl .. => 231
 | .cl .. => 235
 | .mc .. => 243
 | .ab .. => 252
 | .hi .. => 260
def K1.ss : K1 -> SS
 | .fl nx ow L => L.ss
 | .sl tail m L => L.ss
 | .cl tail L => L.ss
 | .mc tail L => L.ss
 | .ab E tail L => L.ss
 | .hi tail L => L.ss
def K1.tm : K1 -> Bool
 | .ab .. => true
 | _ => false
def K1.pr : K1 -> Bool
 | .fl .. => true
 | .sl .. => false
 | .cl .. => true
 | .mc .. => true
 | .ab .. => false
 | .hi .. => false
def K1.set (st dl : Nat -> Int) : K1 -> K1
 | .fl nx ow L => .fl nx ow ⟨⟨st, dl⟩, L.nu, L.dr⟩
 | .sl tail m L => .sl tail m ⟨⟨st, dl⟩, L.nu, L.sp⟩
 | .cl tail L => .cl tail ⟨⟨st, dl⟩, L.no, L.ah, L.sp⟩
 | .mc tail L => .mc tail ⟨⟨st, dl⟩, L.sp, L.ot⟩
 | .ab E tail L => .ab E tail ⟨⟨st, dl⟩, L.sp, L.tr, L.no, L.ot⟩
 | .hi tail L => .hi tail ⟨⟨st, dl⟩, L.cl, L.no, L.ah, L.la, L.wo, L.sp⟩
def K1.ok (n : Nat) : K1 -> Prop
 | .fl nx ow L => True
 | .sl tail m L => ZBW m /\ (0 <= tail /\ tail <= 4096)
 | .cl tail L => 0 <= tail /\ tail <= 4096
 | .mc tail L => True
 | .ab E tail L => E <= 8 /\ abOk n E L
 | .hi tail L => 0 <= tail /\ tail <= 4096
def K1.step (n nw : Nat) (t now : Int) (ta : Nat) (s : PS) : K1 -> Dd × K1 × PS
 | .fl nx ow L => ((ZBX n nw nx ow t ta L s).1, .fl nx ow (ZBX n nw nx ow t ta L s).2.1, (ZBX n nw nx ow t ta L s).2.2)
 | .sl tail m L => ((ZBn n nw tail m t ta L s).1, .sl tail m (ZBn n nw tail m t ta L s).2.1, (ZBn n nw tail m t ta L s).2.2)
 | .cl tail L => ((ZBQ n nw tail t ta L s).1, .cl tail (ZBQ n nw tail t ta L s).2.1, (ZBQ n nw tail t ta L s).2.2)
 | .mc tail L => ((ZBY n nw tail t ta L s).1, .mc tail (ZBY n nw tail t ta L s).2.1, (ZBY n nw tail t ta L s).2.2)
 | .ab E tail L => ((ZBD E n nw tail t now ta L s).1, .ab E tail (ZBD E n nw tail t now ta L s).2.1, (ZBD E n nw tail t now ta L s).2.2)
 | .hi tail L => ((ZBo n nw tail t ta L s).1, .hi tail (ZBo n nw tail t ta L s).2.1, (ZBo n nw tail t ta L s).2.2)
theorem K1.stable (n : Nat) (S : K1) (ls : List Go.Sx.Loc) : ZDb (S.R n ls) := by cases S <;> exact ZB3 _ _ _
theorem ZMY (n nt nw ta : Nat) (nx ow : Int)  (t now : Int) (hs : Nat -> Int) (L : FL) (s : PS) (hn : n <= 64) (ho : inW n t = false) :
  ZAE Tryz.prog 213 (ZJI n nt nw nx ow hs L s) 5 [.l (.p 0 0 0 0), .l (.v (.int .i64 t)), .l (.v (.int .i64 ta)), .l (.v (.int .i64 now))] fun x h k => x = didO (evD 0) /\ k = 5 /\ h = ZJI n nt nw nx ow hs L s := by
 have hst := ZAh n L.ss.st L.ss.dl false true t
 simp only [stV, ho, pick] at hst
 have hen := ZCG n L.ss.st L.ss.dl false true t ho
 refine sE Tryz.func213 ic213_eq [.ca 8 4] fun G hP hA => ?_
 unfold evF ic213
 conv => whnf
 refine g2 hst hen ?_
 exact fA
theorem ZN5 (n nt nw ta : Nat) (nx ow : Int)  (t now : Int) (hs : Nat -> Int) (L : FL) (s : PS) (hta : ta < nt) (hnt : nt <= 64) (hn : n <= 64) (hnw : nw <= 4096) :
  ZAE Tryz.prog 213 [(0, some (.ob [1] (ZAl (ZBt n nx ow L.ss.st L.ss.dl L.nu L.dr) 5))), (1, some (ZBC nt nw hs s))] 2 [.l (.p 0 0 0 0), .l (.v (.int .i64 t)), .l (.v (.int .i64 ta)), .l (.v (.int .i64 now))] fun x h k =>
   x = didO (ZBX n nw nx ow t ta L s).1 /\ k = 2 /\ h = [(0, some (.ob [1] (ZAl (ZBt n nx ow (ZBX n nw nx ow t ta L s).2.1.ss.st (ZBX n nw nx ow t ta L s).2.1.ss.dl (ZBX n nw nx ow t ta L s).2.1.nu (ZBX n nw nx ow t ta L s).2.1.dr) 5))), (1, some (ZBC nt nw hs (ZBX n nw nx ow t ta L s).2.2))] := by
 have key : ZAE Tryz.prog 213 (ZJI n nt nw nx ow hs L s) 5 [.l (.p 0 0 0 0), .l (.v (.int .i64 t)), .l (.v (.int .i64 ta)), .l (.v (.int .i64 now))] fun x h k =>
   x = didO (ZBX n nw nx ow t ta L s).1 /\ k = 5 /\ h = ZJI n nt nw nx ow hs (ZBX n nw nx ow t ta L s).2.1 (ZBX n nw nx ow t ta L s).2.2 := by
  rcases ZAY n t with ⟨hb, i, hi, rfl⟩ | ⟨hb, ho⟩
  ·unfold ZBX
   simp only [hb, Int.toNat_natCast]
   exact ZNh n nt nw i ta nx ow now hs L s hi hta hnt hn hnw
  ·unfold ZBX
   simp only [hb]
   exact ZMY n nt nw ta nx ow t now hs L s hn hb
 generalize ZBX n nw nx ow t ta L s = r at key ⊢
 refine ZAE.refin (ZAE.ghost (ZAS 0 (ks := [1]) (H := ZBt n nx ow L.ss.st L.ss.dl L.nu L.dr) (np := 5) rfl (by decide) rfl rfl rfl) (ZAE.pre key ?_)) ?_
 ·exact ZAB
 ·rintro x h k ⟨rfl, rfl, rfl⟩ _
  (refine ZAD (H := (ZBt n nx ow r.2.1.ss.st r.2.1.ss.dl r.2.1.nu r.2.1.dr)) (np := 5) 0 1 (Nat.le_of_ble_eq_true rfl) ?_; conv => whnf); (refine zK ?_)
  exact fA
theorem ZMZ (n nt nw ta : Nat) (tail : Int) (m : Nat)  (t now : Int) (hs : Nat -> Int) (L : SL) (s : PS) (hn : n <= 64) (ho : inW n t = false) :
  ZAE Tryz.prog 231 (ZEU n nt nw tail m hs L s) 4 [.l (.p 0 0 0 0), .l (.v (.int .i64 t)), .l (.v (.int .i64 ta)), .l (.v (.int .i64 now))] fun x h k => x = didO (evD 0) /\ k = 4 /\ h = ZEU n nt nw tail m hs L s := by
 have hst := ZAh n L.ss.st L.ss.dl false false t
 simp only [stV, ho, pick] at hst
 have hen := ZCG n L.ss.st L.ss.dl false false t ho
 refine sE Tryz.func231 ic231_eq [.ca 8 4] fun G hP hA => ?_
 unfold evF ic231
 conv => whnf
 refine g2 hst hen ?_
 exact fA
theorem ZN6 (n nt nw ta : Nat) (tail : Int) (m : Nat)  (t now : Int) (hs : Nat -> Int) (L : SL) (s : PS) (hta : ta < nt) (hnt : nt <= 64) (hn : n <= 64) (hnw : nw <= 4096) (hok : ZBW m /\ (0 <= tail /\ tail <= 4096)) :
  ZAE Tryz.prog 231 [(0, some (.ob [1] (ZAl (ZA9 n tail m L.ss.st L.ss.dl L.nu L.sp) 4))), (1, some (ZBC nt nw hs s))] 2 [.l (.p 0 0 0 0), .l (.v (.int .i64 t)), .l (.v (.int .i64 ta)), .l (.v (.int .i64 now))] fun x h k =>
   x = didO (ZBn n nw tail m t ta L s).1 /\ k = 2 /\ h = [(0, some (.ob [1] (ZAl (ZA9 n tail m (ZBn n nw tail m t ta L s).2.1.ss.st (ZBn n nw tail m t ta L s).2.1.ss.dl (ZBn n nw tail m t ta L s).2.1.nu (ZBn n nw tail m t ta L s).2.1.sp) 4))), (1, some (ZBC nt nw hs (ZBn n nw tail m t ta L s).2.2))] := by
 have key : ZAE Tryz.prog 231 (ZEU n nt nw tail m hs L s) 4 [.l (.p 0 0 0 0), .l (.v (.int .i64 t)), .l (.v (.int .i64 ta)), .l (.v (.int .i64 now))] fun x h k =>
   x = didO (ZBn n nw tail m t ta L s).1 /\ k = 4 /\ h = ZEU n nt nw tail m hs (ZBn n nw tail m t ta L s).2.1 (ZBn n nw tail m t ta L s).2.2 := by
  rcases ZAY n t with ⟨hb, i, hi, rfl⟩ | ⟨hb, ho⟩
  ·unfold ZBn
   simp only [hb, Int.toNat_natCast]
   exact ZNj n nt nw m i ta tail now hs L s hi hta hnt hn hnw hok.1 hok.2
  ·unfold ZBn
   simp only [hb]
   exact ZMZ n nt nw ta tail m t now hs L s hn hb
 generalize ZBn n nw tail m t ta L s = r at key ⊢
 refine ZAE.refin (ZAE.ghost (ZAS 0 (ks := [1]) (H := ZA9 n tail m L.ss.st L.ss.dl L.nu L.sp) (np := 4) rfl (by decide) rfl rfl rfl) (ZAE.pre key ?_)) ?_
 ·exact ZAB
 ·rintro x h k ⟨rfl, rfl, rfl⟩ _
  (refine ZAD (H := (ZA9 n tail m r.2.1.ss.st r.2.1.ss.dl r.2.1.nu r.2.1.sp)) (np := 4) 0 1 (Nat.le_of_ble_eq_true rfl) ?_; conv => whnf); (refine zK ?_)
  exact fA
theorem ZMa (n nt nw ta : Nat) (tail : Int)  (t now : Int) (hs : Nat -> Int) (L : CL) (s : PS) (hn : n <= 64) (ho : inW n t = false) :
  ZAE Tryz.prog 235 (clhG n nt nw tail hs L s) 4 [.l (.p 0 0 0 0), .l (.v (.int .i64 t)), .l (.v (.int .i64 ta)), .l (.v (.int .i64 now))] fun x h k => x = didO (evD 0) /\ k = 4 /\ h = clhG n nt nw tail hs L s := by
 have hst := ZAh n L.ss.st L.ss.dl false true t
 simp only [stV, ho, pick] at hst
 have hen := ZCG n L.ss.st L.ss.dl false true t ho
 refine sE Tryz.func235 ic235_eq [.ca 8 4] fun G hP hA => ?_
 unfold evF ic235
 conv => whnf
 refine g2 hst hen ?_
 exact fA
theorem ZN7 (n nt nw ta : Nat) (tail : Int)  (t now : Int) (hs : Nat -> Int) (L : CL) (s : PS) (hta : ta < nt) (hnt : nt <= 64) (hn : n <= 64) (hnw : nw <= 4096) (hok : 0 <= tail /\ tail <= 4096) :
  ZAE Tryz.prog 235 [(0, some (.ob [1] (ZAl (ZDL n tail L.ss.st L.ss.dl L.no L.ah L.sp) 4))), (1, some (ZBC nt nw hs s))] 2 [.l (.p 0 0 0 0), .l (.v (.int .i64 t)), .l (.v (.int .i64 ta)), .l (.v (.int .i64 now))] fun x h k =>
   x = didO (ZBQ n nw tail t ta L s).1 /\ k = 2 /\ h = [(0, some (.ob [1] (ZAl (ZDL n tail (ZBQ n nw tail t ta L s).2.1.ss.st (ZBQ n nw tail t ta L s).2.1.ss.dl (ZBQ n nw tail t ta L s).2.1.no (ZBQ n nw tail t ta L s).2.1.ah (ZBQ n nw tail t ta L s).2.1.sp) 4))), (1, some (ZBC nt nw hs (ZBQ n nw tail t ta L s).2.2))] := by
 have key : ZAE Tryz.prog 235 (clhG n nt nw tail hs L s) 4 [.l (.p 0 0 0 0), .l (.v (.int .i64 t)), .l (.v (.int .i64 ta)), .l (.v (.int .i64 now))] fun x h k =>
   x = didO (ZBQ n nw tail t ta L s).1 /\ k = 4 /\ h = clhG n nt nw tail hs (ZBQ n nw tail t ta L s).2.1 (ZBQ n nw tail t ta L s).2.2 := by
  rcases ZAY n t with ⟨hb, i, hi, rfl⟩ | ⟨hb, ho⟩
  ·unfold ZBQ
   simp only [hb, Int.toNat_natCast]
   exact ZNl n nt nw i ta tail now hs L s hi hta hnt hn hnw hok
  ·unfold ZBQ
   simp only [hb]
   exact ZMa n nt nw ta tail t now hs L s hn hb
 generalize ZBQ n nw tail t ta L s = r at key ⊢
 refine ZAE.refin (ZAE.ghost (ZAS 0 (ks := [1]) (H := ZDL n tail L.ss.st L.ss.dl L.no L.ah L.sp) (np := 4) rfl (by decide) rfl rfl rfl) (ZAE.pre key ?_)) ?_
 ·exact ZAB
 ·rintro x h k ⟨rfl, rfl, rfl⟩ _
  (refine ZAD (H := (ZDL n tail r.2.1.ss.st r.2.1.ss.dl r.2.1.no r.2.1.ah r.2.1.sp)) (np := 4) 0 1 (Nat.le_of_ble_eq_true rfl) ?_; conv => whnf); (refine zK ?_)
  exact fA
theorem ZMb (n nt nw ta : Nat) (tail : Int)  (t now : Int) (hs : Nat -> Int) (L : ML) (s : PS) (hn : n <= 64) (ho : inW n t = false) :
  ZAE Tryz.prog 243 (mcsG n nt nw tail hs L s) 4 [.l (.p 0 0 0 0), .l (.v (.int .i64 t)), .l (.v (.int .i64 ta)), .l (.v (.int .i64 now))] fun x h k => x = didO (evD 0) /\ k = 4 /\ h = mcsG n nt nw tail hs L s := by
 have hst := ZAh n L.ss.st L.ss.dl false true t
 simp only [stV, ho, pick] at hst
 have hen := ZCG n L.ss.st L.ss.dl false true t ho
 refine sE Tryz.func243 ic243_eq [.ca 8 4] fun G hP hA => ?_
 unfold evF ic243
 conv => whnf
 refine g2 hst hen ?_
 exact fA
theorem ZN8 (n nt nw ta : Nat) (tail : Int)  (t now : Int) (hs : Nat -> Int) (L : ML) (s : PS) (hta : ta < nt) (hnt : nt <= 64) (hn : n <= 64) (hnw : nw <= 4096) :
  ZAE Tryz.prog 243 [(0, some (.ob [1] (ZAl (ZDM n tail L.ss.st L.ss.dl L.sp L.ot) 4))), (1, some (ZBC nt nw hs s))] 2 [.l (.p 0 0 0 0), .l (.v (.int .i64 t)), .l (.v (.int .i64 ta)), .l (.v (.int .i64 now))] fun x h k =>
   x = didO (ZBY n nw tail t ta L s).1 /\ k = 2 /\ h = [(0, some (.ob [1] (ZAl (ZDM n tail (ZBY n nw tail t ta L s).2.1.ss.st (ZBY n nw tail t ta L s).2.1.ss.dl (ZBY n nw tail t ta L s).2.1.sp (ZBY n nw tail t ta L s).2.1.ot) 4))), (1, some (ZBC nt nw hs (ZBY n nw tail t ta L s).2.2))] := by
 have key : ZAE Tryz.prog 243 (mcsG n nt nw tail hs L s) 4 [.l (.p 0 0 0 0), .l (.v (.int .i64 t)), .l (.v (.int .i64 ta)), .l (.v (.int .i64 now))] fun x h k =>
   x = didO (ZBY n nw tail t ta L s).1 /\ k = 4 /\ h = mcsG n nt nw tail hs (ZBY n nw tail t ta L s).2.1 (ZBY n nw tail t ta L s).2.2 := by
  rcases ZAY n t with ⟨hb, i, hi, rfl⟩ | ⟨hb, ho⟩
  ·unfold ZBY
   simp only [hb, Int.toNat_natCast]
   exact ZNo n nt nw i ta tail now hs L s hi hta hnt hn hnw
  ·unfold ZBY
   simp only [hb]
   exact ZMb n nt nw ta tail t now hs L s hn hb
 generalize ZBY n nw tail t ta L s = r at key ⊢
 refine ZAE.refin (ZAE.ghost (ZAS 0 (ks := [1]) (H := ZDM n tail L.ss.st L.ss.dl L.sp L.ot) (np := 4) rfl (by decide) rfl rfl rfl) (ZAE.pre key ?_)) ?_
 ·exact ZAB
 ·rintro x h k ⟨rfl, rfl, rfl⟩ _
  (refine ZAD (H := (ZDM n tail r.2.1.ss.st r.2.1.ss.dl r.2.1.sp r.2.1.ot)) (np := 4) 0 1 (Nat.le_of_ble_eq_true rfl) ?_; conv => whnf); (refine zK ?_)
  exact fA
theorem ZMc (n nt nw ta : Nat) (E : Nat) (tail : Int)  (t now : Int) (hs : Nat -> Int) (L : AL) (s : PS) (hn : n <= 64) (ho : inW n t = false) :
  ZAE Tryz.prog 252 (ZE7 n E nt nw tail hs L s) 5 [.l (.p 0 0 0 0), .l (.v (.int .i64 t)), .l (.v (.int .i64 ta)), .l (.v (.int .i64 now))] fun x h k => x = didO (evD 0) /\ k = 5 /\ h = ZE7 n E nt nw tail hs L s := by
 have hst := ZAh n L.ss.st L.ss.dl true false t
 simp only [stV, ho, pick] at hst
 have hen := ZCG n L.ss.st L.ss.dl true false t ho
 refine sE Tryz.func252 ic252_eq [.ca 8 4] fun G hP hA => ?_
 unfold evF ic252
 conv => whnf
 refine g2 hst hen ?_
 exact fA
theorem ZN9 (n nt nw ta : Nat) (E : Nat) (tail : Int)  (t now : Int) (hs : Nat -> Int) (L : AL) (s : PS) (hta : ta < nt) (hnt : nt <= 64) (hn : n <= 64) (hnw : nw <= 4096) (hok : E <= 8 /\ abOk n E L) :
  ZAE Tryz.prog 252 [(0, some (.ob [1] (ZAl (ZBZ n E tail L.ss.st L.ss.dl L.sp L.tr L.no L.ot) 5))), (1, some (ZBC nt nw hs s))] 2 [.l (.p 0 0 0 0), .l (.v (.int .i64 t)), .l (.v (.int .i64 ta)), .l (.v (.int .i64 now))] fun x h k =>
   x = didO (ZBD E n nw tail t now ta L s).1 /\ k = 2 /\ h = [(0, some (.ob [1] (ZAl (ZBZ n E tail (ZBD E n nw tail t now ta L s).2.1.ss.st (ZBD E n nw tail t now ta L s).2.1.ss.dl (ZBD E n nw tail t now ta L s).2.1.sp (ZBD E n nw tail t now ta L s).2.1.tr (ZBD E n nw tail t now ta L s).2.1.no (ZBD E n nw tail t now ta L s).2.1.ot) 5))), (1, some (ZBC nt nw hs (ZBD E n nw tail t now ta L s).2.2))] := by
 have key : ZAE Tryz.prog 252 (ZE7 n E nt nw tail hs L s) 5 [.l (.p 0 0 0 0), .l (.v (.int .i64 t)), .l (.v (.int .i64 ta)), .l (.v (.int .i64 now))] fun x h k =>
   x = didO (ZBD E n nw tail t now ta L s).1 /\ k = 5 /\ h = ZE7 n E nt nw tail hs (ZBD E n nw tail t now ta L s).2.1 (ZBD E n nw tail t now ta L s).2.2 := by
  rcases ZAY n t with ⟨hb, i, hi, rfl⟩ | ⟨hb, ho⟩
  ·unfold ZBD
   simp only [hb, Int.toNat_natCast]
   exact ZN4 n E nt nw i ta tail now hs L s hi hta hnt hn hok.1 hnw hok.2
  ·unfold ZBD
   simp only [hb]
   exact ZMc n nt nw ta E tail t now hs L s hn hb
 generalize ZBD E n nw tail t now ta L s = r at key ⊢
 refine ZAE.refin (ZAE.ghost (ZAS 0 (ks := [1]) (H := ZBZ n E tail L.ss.st L.ss.dl L.sp L.tr L.no L.ot) (np := 5) rfl (by decide) rfl rfl rfl) (ZAE.pre key ?_)) ?_
 ·exact ZAB
 ·rintro x h k ⟨rfl, rfl, rfl⟩ _
  (refine ZAD (H := (ZBZ n E tail r.2.1.ss.st r.2.1.ss.dl r.2.1.sp r.2.1.tr r.2.1.no r.2.1.ot)) (np := 5) 0 1 (Nat.le_of_ble_eq_true rfl) ?_; conv => whnf); (refine zK ?_)
  exact fA
theorem ZMd (n nt nw ta : Nat) (tail : Int)  (t now : Int) (hs : Nat -> Int) (L : HL) (s : PS) (hn : n <= 64) (ho : inW n t = false) :
  ZAE Tryz.prog 260 (ZHC n nt nw tail hs L s) 4 [.l (.p 0 0 0 0), .l (.v (.int .i64 t)), .l (.v (.int .i64 ta)), .l (.v (.int .i64 now))] fun x h k => x = didO (evD 0) /\ k = 4 /\ h = ZHC n nt nw tail hs L s := by
 have hst := ZAh n L.ss.st L.ss.dl false false t
 simp only [stV, ho, pick] at hst
 have hen := ZCG n L.ss.st L.ss.dl false false t ho
 refine sE Tryz.func260 ic260_eq [.ca 8 4] fun G hP hA => ?_
 unfold evF ic260
 conv => whnf
 refine g2 hst hen ?_
 exact fA
theorem ZOA (n nt nw ta : Nat) (tail : Int)  (t now : Int) (hs : Nat -> Int) (L : HL) (s : PS) (hta : ta < nt) (hnt : nt <= 64) (hn : n <= 64) (hnw : nw <= 4096) (hok : 0 <= tail /\ tail <= 4096) :
  ZAE Tryz.prog 260 [(0, some (.ob [1] (ZAl (ZCU n tail L.ss.st L.ss.dl L.cl L.no L.ah L.la L.wo L.sp) 4))), (1, some (ZBC nt nw hs s))] 2 [.l (.p 0 0 0 0), .l (.v (.int .i64 t)), .l (.v (.int .i64 ta)), .l (.v (.int .i64 now))] fun x h k =>
   x = didO (ZBo n nw tail t ta L s).1 /\ k = 2 /\ h = [(0, some (.ob [1] (ZAl (ZCU n tail (ZBo n nw tail t ta L s).2.1.ss.st (ZBo n nw tail t ta L s).2.1.ss.dl (ZBo n nw tail t ta L s).2.1.cl (ZBo n nw tail t ta L s).2.1.no (ZBo n nw tail t ta L s).2.1.ah (ZBo n nw tail t ta L s).2.1.la (ZBo n nw tail t ta L s).2.1.wo (ZBo n nw tail t ta L s).2.1.sp) 4))), (1, some (ZBC nt nw hs (ZBo n nw tail t ta L s).2.2))] := by
 have key : ZAE Tryz.prog 260 (ZHC n nt nw tail hs L s) 4 [.l (.p 0 0 0 0), .l (.v (.int .i64 t)), .l (.v (.int .i64 ta)), .l (.v (.int .i64 now))] fun x h k =>
   x = didO (ZBo n nw tail t ta L s).1 /\ k = 4 /\ h = ZHC n nt nw tail hs (ZBo n nw tail t ta L s).2.1 (ZBo n nw tail t ta L s).2.2 := by
  rcases ZAY n t with ⟨hb, i, hi, rfl⟩ | ⟨hb, ho⟩
  ·unfold ZBo
   simp only [hb, Int.toNat_natCast]
   exact ZNx n nt nw i ta tail now hs L s hi hta hnt hn hnw hok
  ·unfold ZBo
   simp only [hb]
   exact ZMd n nt nw ta tail t now hs L s hn hb
 generalize ZBo n nw tail t ta L s = r at key ⊢
 refine ZAE.refin (ZAE.ghost (ZAS 0 (ks := [1]) (H := ZCU n tail L.ss.st L.ss.dl L.cl L.no L.ah L.la L.wo L.sp) (np := 4) rfl (by decide) rfl rfl rfl) (ZAE.pre key ?_)) ?_
 ·exact ZAB
 ·rintro x h k ⟨rfl, rfl, rfl⟩ _
  (refine ZAD (H := (ZCU n tail r.2.1.ss.st r.2.1.ss.dl r.2.1.cl r.2.1.no r.2.1.ah r.2.1.la r.2.1.wo r.2.1.sp)) (np := 4) 0 1 (Nat.le_of_ble_eq_true rfl) ?_; conv => whnf); (refine zK ?_)
  exact fA
theorem ZMe (S : K1) (v : Value) (args : Array Value) (w : World) : (callMethod (.iface S.T v) "Step" args).run Tryz.prog w = .ok (.enter S.F (#[v] ++ args)) w := by
 cases S <;> kernel_rfl
theorem ZHZ (S : K1) (n nt nw ta : Nat) (t now : Int) (hs : Nat -> Int) (s : PS) (hta : ta < nt) (hnt : nt <= 64) (hn : n <= 64) (hnw : nw <= 4096) (hok : S.ok n) :
  ZDN Tryz.prog (.l (.i S.T 0)) "Step" [(0, some (.ob [1] (S.R n))), (1, some (ZBC nt nw hs s))] 2 [.l (.v (.int .i64 t)), .l (.v (.int .i64 ta)), .l (.v (.int .i64 now))] fun x h k =>
   x = didO (S.step n nw t now ta s).1 /\ k = 2 /\ h = [(0, some (.ob [1] ((S.step n nw t now ta s).2.1.R n))), (1, some (ZBC nt nw hs (S.step n nw t now ta s).2.2))] := by
 refine ZKI (ZMe S) ?_
 cases S with
 | fl nx ow L => exact ZN5 n nt nw ta nx ow t now hs L s hta hnt hn hnw
 | sl tail m L => exact ZN6 n nt nw ta tail m t now hs L s hta hnt hn hnw hok
 | cl tail L => exact ZN7 n nt nw ta tail t now hs L s hta hnt hn hnw hok
 | mc tail L => exact ZN8 n nt nw ta tail t now hs L s hta hnt hn hnw
 | ab E tail L => exact ZN9 n nt nw ta E tail t now hs L s hta hnt hn hnw hok
 | hi tail L => exact ZOA n nt nw ta tail t now hs L s hta hnt hn hnw hok
theorem ZKd : IvS 221 "Lock" 210 := ZAe fun a args w => by kernel_rfl
theorem ZJO : IvS 224 "Lock" 210 := ZAe fun a args w => by kernel_rfl
theorem ZMf : IvS 227 "Lock" 210 := ZAe fun a args w => by kernel_rfl
theorem ZMg : IvS 230 "Lock" 210 := ZAe fun a args w => by kernel_rfl
theorem ZJP : IvS 233 "Lock" 210 := ZAe fun a args w => by kernel_rfl
theorem ZKe : IvS 236 "Lock" 210 := ZAe fun a args w => by kernel_rfl
theorem ZOB (S : K1) (n : Nat) (t d : Int) (hn : n <= 64) :
  ZDN Tryz.prog (.l (.i S.T 0)) "Lock" [(0, some (.ob [1] (S.R n)))] 2 [.l (.v (.int .i64 t)), .l (.v (.int .i64 d))] fun x h k => x = sInt .i64 (lkE n S.ss.st S.tm t d) /\ k = 2 /\ h = [(0, some (.ob [1] ((S.set (lkSt n S.ss.st S.tm t d) (lkDl n S.ss.st S.ss.dl S.tm t d)).R n)))] := by
 have hq := ZFx n S.ss.st S.ss.dl S.tm S.pr t d hn
 refine ZA5 fun G hP hA => ?_
 cases S with
 | fl nx ow L =>
  refine ZAM (ZAS 0 (ks := [1]) (H := ZBt n nx ow L.ss.st L.ss.dl L.nu L.dr) (np := 5) rfl (by decide) rfl rfl rfl) ?_
  refine ZAP hP ZKd rfl rfl ?_
  conv => whnf
  refine cA (hq) ?_
  (refine ZAD (H := (ZBt n nx ow (lkSt n L.ss.st false t d) (lkDl n L.ss.st L.ss.dl false t d) L.nu L.dr)) (np := 5) 0 1 (Nat.le_of_ble_eq_true rfl) ?_; conv => whnf); (refine zK ?_)
  exact fA
 | sl tail m L =>
  refine ZAM (ZAS 0 (ks := [1]) (H := ZA9 n tail m L.ss.st L.ss.dl L.nu L.sp) (np := 4) rfl (by decide) rfl rfl rfl) ?_
  refine ZAP hP ZJO rfl rfl ?_
  conv => whnf
  refine cA (hq) ?_
  (refine ZAD (H := (ZA9 n tail m (lkSt n L.ss.st false t d) (lkDl n L.ss.st L.ss.dl false t d) L.nu L.sp)) (np := 4) 0 1 (Nat.le_of_ble_eq_true rfl) ?_; conv => whnf); (refine zK ?_)
  exact fA
 | cl tail L =>
  refine ZAM (ZAS 0 (ks := [1]) (H := ZDL n tail L.ss.st L.ss.dl L.no L.ah L.sp) (np := 4) rfl (by decide) rfl rfl rfl) ?_
  refine ZAP hP ZMf rfl rfl ?_
  conv => whnf
  refine cA (hq) ?_
  (refine ZAD (H := (ZDL n tail (lkSt n L.ss.st false t d) (lkDl n L.ss.st L.ss.dl false t d) L.no L.ah L.sp)) (np := 4) 0 1 (Nat.le_of_ble_eq_true rfl) ?_; conv => whnf); (refine zK ?_)
  exact fA
 | mc tail L =>
  refine ZAM (ZAS 0 (ks := [1]) (H := ZDM n tail L.ss.st L.ss.dl L.sp L.ot) (np := 4) rfl (by decide) rfl rfl rfl) ?_
  refine ZAP hP ZMg rfl rfl ?_
  conv => whnf
  refine cA (hq) ?_
  (refine ZAD (H := (ZDM n tail (lkSt n L.ss.st false t d) (lkDl n L.ss.st L.ss.dl false t d) L.sp L.ot)) (np := 4) 0 1 (Nat.le_of_ble_eq_true rfl) ?_; conv => whnf); (refine zK ?_)
  exact fA
 | ab E tail L =>
  refine ZAM (ZAS 0 (ks := [1]) (H := ZBZ n E tail L.ss.st L.ss.dl L.sp L.tr L.no L.ot) (np := 5) rfl (by decide) rfl rfl rfl) ?_
  refine ZAP hP ZJP rfl rfl ?_
  conv => whnf
  refine cA (hq) ?_
  (refine ZAD (H := (ZBZ n E tail (lkSt n L.ss.st true t d) (lkDl n L.ss.st L.ss.dl true t d) L.sp L.tr L.no L.ot)) (np := 5) 0 1 (Nat.le_of_ble_eq_true rfl) ?_; conv => whnf); (refine zK ?_)
  exact fA
 | hi tail L =>
  refine ZAM (ZAS 0 (ks := [1]) (H := ZCU n tail L.ss.st L.ss.dl L.cl L.no L.ah L.la L.wo L.sp) (np := 4) rfl (by decide) rfl rfl rfl) ?_
  refine ZAP hP ZKe rfl rfl ?_
  conv => whnf
  refine cA (hq) ?_
  (refine ZAD (H := (ZCU n tail (lkSt n L.ss.st false t d) (lkDl n L.ss.st L.ss.dl false t d) L.cl L.no L.ah L.la L.wo L.sp)) (np := 4) 0 1 (Nat.le_of_ble_eq_true rfl) ?_; conv => whnf); (refine zK ?_)
  exact fA
theorem ZH9 : IvS 221 "Unlock" 214 := ZAe fun a args w => by kernel_rfl
theorem ZHD : IvS 224 "Unlock" 214 := ZAe fun a args w => by kernel_rfl
theorem ZJQ : IvS 227 "Unlock" 214 := ZAe fun a args w => by kernel_rfl
theorem ZJR : IvS 230 "Unlock" 214 := ZAe fun a args w => by kernel_rfl
theorem ZHE : IvS 233 "Unlock" 214 := ZAe fun a args w => by kernel_rfl
theorem ZIA : IvS 236 "Unlock" 214 := ZAe fun a args w => by kernel_rfl
theorem ZIB (S : K1) (n : Nat) (t : Int) (hn : n <= 64) :
  ZDN Tryz.prog (.l (.i S.T 0)) "Unlock" [(0, some (.ob [1] (S.R n)))] 2 [.l (.v (.int .i64 t))] fun x h k => x = sInt .i64 (hoE n S.ss.st t) /\ k = 2 /\ h = [(0, some (.ob [1] ((S.set (ulSt n S.ss.st t 3) S.ss.dl).R n)))] := by
 have hq := ZEV n S.ss.st S.ss.dl S.tm S.pr t hn
 refine ZA5 fun G hP hA => ?_
 cases S with
 | fl nx ow L =>
  refine ZAM (ZAS 0 (ks := [1]) (H := ZBt n nx ow L.ss.st L.ss.dl L.nu L.dr) (np := 5) rfl (by decide) rfl rfl rfl) ?_
  refine ZAP hP ZH9 rfl rfl ?_
  conv => whnf
  refine cA (hq) ?_
  (refine ZAD (H := (ZBt n nx ow (ulSt n L.ss.st t 3) L.ss.dl L.nu L.dr)) (np := 5) 0 1 (Nat.le_of_ble_eq_true rfl) ?_; conv => whnf); (refine zK ?_)
  exact fA
 | sl tail m L =>
  refine ZAM (ZAS 0 (ks := [1]) (H := ZA9 n tail m L.ss.st L.ss.dl L.nu L.sp) (np := 4) rfl (by decide) rfl rfl rfl) ?_
  refine ZAP hP ZHD rfl rfl ?_
  conv => whnf
  refine cA (hq) ?_
  (refine ZAD (H := (ZA9 n tail m (ulSt n L.ss.st t 3) L.ss.dl L.nu L.sp)) (np := 4) 0 1 (Nat.le_of_ble_eq_true rfl) ?_; conv => whnf); (refine zK ?_)
  exact fA
 | cl tail L =>
  refine ZAM (ZAS 0 (ks := [1]) (H := ZDL n tail L.ss.st L.ss.dl L.no L.ah L.sp) (np := 4) rfl (by decide) rfl rfl rfl) ?_
  refine ZAP hP ZJQ rfl rfl ?_
  conv => whnf
  refine cA (hq) ?_
  (refine ZAD (H := (ZDL n tail (ulSt n L.ss.st t 3) L.ss.dl L.no L.ah L.sp)) (np := 4) 0 1 (Nat.le_of_ble_eq_true rfl) ?_; conv => whnf); (refine zK ?_)
  exact fA
 | mc tail L =>
  refine ZAM (ZAS 0 (ks := [1]) (H := ZDM n tail L.ss.st L.ss.dl L.sp L.ot) (np := 4) rfl (by decide) rfl rfl rfl) ?_
  refine ZAP hP ZJR rfl rfl ?_
  conv => whnf
  refine cA (hq) ?_
  (refine ZAD (H := (ZDM n tail (ulSt n L.ss.st t 3) L.ss.dl L.sp L.ot)) (np := 4) 0 1 (Nat.le_of_ble_eq_true rfl) ?_; conv => whnf); (refine zK ?_)
  exact fA
 | ab E tail L =>
  refine ZAM (ZAS 0 (ks := [1]) (H := ZBZ n E tail L.ss.st L.ss.dl L.sp L.tr L.no L.ot) (np := 5) rfl (by decide) rfl rfl rfl) ?_
  refine ZAP hP ZHE rfl rfl ?_
  conv => whnf
  refine cA (hq) ?_
  (refine ZAD (H := (ZBZ n E tail (ulSt n L.ss.st t 3) L.ss.dl L.sp L.tr L.no L.ot)) (np := 5) 0 1 (Nat.le_of_ble_eq_true rfl) ?_; conv => whnf); (refine zK ?_)
  exact fA
 | hi tail L =>
  refine ZAM (ZAS 0 (ks := [1]) (H := ZCU n tail L.ss.st L.ss.dl L.cl L.no L.ah L.la L.wo L.sp) (np := 4) rfl (by decide) rfl rfl rfl) ?_
  refine ZAP hP ZIA rfl rfl ?_
  conv => whnf
  refine cA (hq) ?_
  (refine ZAD (H := (ZCU n tail (ulSt n L.ss.st t 3) L.ss.dl L.cl L.no L.ah L.la L.wo L.sp)) (np := 4) 0 1 (Nat.le_of_ble_eq_true rfl) ?_; conv => whnf); (refine zK ?_)
  exact fA
theorem ZJS : IvS 221 "Probe" 211 := ZAe fun a args w => by kernel_rfl
theorem ZIC : IvS 224 "Probe" 211 := ZAe fun a args w => by kernel_rfl
theorem ZKf : IvS 227 "Probe" 211 := ZAe fun a args w => by kernel_rfl
theorem ZKg : IvS 230 "Probe" 211 := ZAe fun a args w => by kernel_rfl
theorem ZID : IvS 233 "Probe" 211 := ZAe fun a args w => by kernel_rfl
theorem ZJT : IvS 236 "Probe" 211 := ZAe fun a args w => by kernel_rfl
theorem ZQj (S : K1) (n : Nat) (t : Int) (hn : n <= 64) :
  ZDN Tryz.prog (.l (.i S.T 0)) "Probe" [(0, some (.ob [1] (S.R n)))] 2 [.l (.v (.int .i64 t))] fun x h k => x = sInt .i64 (prE n S.ss.st S.pr t) /\ k = 2 /\ h = [(0, some (.ob [1] ((S.set (prSt n S.ss.st S.pr t) S.ss.dl).R n)))] := by
 have hq := ZH8 n S.ss.st S.ss.dl S.tm S.pr t hn
 refine ZA5 fun G hP hA => ?_
 cases S with
 | fl nx ow L =>
  refine ZAM (ZAS 0 (ks := [1]) (H := ZBt n nx ow L.ss.st L.ss.dl L.nu L.dr) (np := 5) rfl (by decide) rfl rfl rfl) ?_
  refine ZAP hP ZJS rfl rfl ?_
  conv => whnf
  refine cA (hq) ?_
  (refine ZAD (H := (ZBt n nx ow (prSt n L.ss.st true t) L.ss.dl L.nu L.dr)) (np := 5) 0 1 (Nat.le_of_ble_eq_true rfl) ?_; conv => whnf); (refine zK ?_)
  exact fA
 | sl tail m L =>
  refine ZAM (ZAS 0 (ks := [1]) (H := ZA9 n tail m L.ss.st L.ss.dl L.nu L.sp) (np := 4) rfl (by decide) rfl rfl rfl) ?_
  refine ZAP hP ZIC rfl rfl ?_
  conv => whnf
  refine cA (hq) ?_
  (refine ZAD (H := (ZA9 n tail m (prSt n L.ss.st false t) L.ss.dl L.nu L.sp)) (np := 4) 0 1 (Nat.le_of_ble_eq_true rfl) ?_; conv => whnf); (refine zK ?_)
  exact fA
 | cl tail L =>
  refine ZAM (ZAS 0 (ks := [1]) (H := ZDL n tail L.ss.st L.ss.dl L.no L.ah L.sp) (np := 4) rfl (by decide) rfl rfl rfl) ?_
  refine ZAP hP ZKf rfl rfl ?_
  conv => whnf
  refine cA (hq) ?_
  (refine ZAD (H := (ZDL n tail (prSt n L.ss.st true t) L.ss.dl L.no L.ah L.sp)) (np := 4) 0 1 (Nat.le_of_ble_eq_true rfl) ?_; conv => whnf); (refine zK ?_)
  exact fA
 | mc tail L =>
  refine ZAM (ZAS 0 (ks := [1]) (H := ZDM n tail L.ss.st L.ss.dl L.sp L.ot) (np := 4) rfl (by decide) rfl rfl rfl) ?_
  refine ZAP hP ZKg rfl rfl ?_
  conv => whnf
  refine cA (hq) ?_
  (refine ZAD (H := (ZDM n tail (prSt n L.ss.st true t) L.ss.dl L.sp L.ot)) (np := 4) 0 1 (Nat.le_of_ble_eq_true rfl) ?_; conv => whnf); (refine zK ?_)
  exact fA
 | ab E tail L =>
  refine ZAM (ZAS 0 (ks := [1]) (H := ZBZ n E tail L.ss.st L.ss.dl L.sp L.tr L.no L.ot) (np := 5) rfl (by decide) rfl rfl rfl) ?_
  refine ZAP hP ZID rfl rfl ?_
  conv => whnf
  refine cA (hq) ?_
  (refine ZAD (H := (ZBZ n E tail (prSt n L.ss.st false t) L.ss.dl L.sp L.tr L.no L.ot)) (np := 5) 0 1 (Nat.le_of_ble_eq_true rfl) ?_; conv => whnf); (refine zK ?_)
  exact fA
 | hi tail L =>
  refine ZAM (ZAS 0 (ks := [1]) (H := ZCU n tail L.ss.st L.ss.dl L.cl L.no L.ah L.la L.wo L.sp) (np := 4) rfl (by decide) rfl rfl rfl) ?_
  refine ZAP hP ZJT rfl rfl ?_
  conv => whnf
  refine cA (hq) ?_
  (refine ZAD (H := (ZCU n tail (prSt n L.ss.st false t) L.ss.dl L.cl L.no L.ah L.la L.wo L.sp)) (np := 4) 0 1 (Nat.le_of_ble_eq_true rfl) ?_; conv => whnf); (refine zK ?_)
  exact fA
theorem ZJU : IvS 221 "State" 212 := ZAe fun a args w => by kernel_rfl
theorem ZIE : IvS 224 "State" 212 := ZAe fun a args w => by kernel_rfl
theorem ZKh : IvS 227 "State" 212 := ZAe fun a args w => by kernel_rfl
theorem ZKi : IvS 230 "State" 212 := ZAe fun a args w => by kernel_rfl
theorem ZIF : IvS 233 "State" 212 := ZAe fun a args w => by kernel_rfl
theorem ZJV : IvS 236 "State" 212 := ZAe fun a args w => by kernel_rfl
theorem ZQk (S : K1) (n : Nat) (t : Int) (hn : n <= 64) :
  ZDN Tryz.prog (.l (.i S.T 0)) "State" [(0, some (.ob [1] (S.R n)))] 2 [.l (.v (.int .i64 t))] fun x h k => x = sInt .i64 (stV n S.ss.st t) /\ k = 2 /\ h = [(0, some (.ob [1] (S.R n)))] := by
 have hq := ZAh n S.ss.st S.ss.dl S.tm S.pr t
 refine ZA5 fun G hP hA => ?_
 cases S with
 | fl nx ow L =>
  refine ZAM (ZAS 0 (ks := [1]) (H := ZBt n nx ow L.ss.st L.ss.dl L.nu L.dr) (np := 5) rfl (by decide) rfl rfl rfl) ?_
  refine ZAP hP ZJU rfl rfl ?_
  conv => whnf
  refine cA (hq) ?_
  (refine ZAD (H := (ZBt n nx ow L.ss.st L.ss.dl L.nu L.dr)) (np := 5) 0 1 (Nat.le_of_ble_eq_true rfl) ?_; conv => whnf); (refine zK ?_)
  exact fA
 | sl tail m L =>
  refine ZAM (ZAS 0 (ks := [1]) (H := ZA9 n tail m L.ss.st L.ss.dl L.nu L.sp) (np := 4) rfl (by decide) rfl rfl rfl) ?_
  refine ZAP hP ZIE rfl rfl ?_
  conv => whnf
  refine cA (hq) ?_
  (refine ZAD (H := (ZA9 n tail m L.ss.st L.ss.dl L.nu L.sp)) (np := 4) 0 1 (Nat.le_of_ble_eq_true rfl) ?_; conv => whnf); (refine zK ?_)
  exact fA
 | cl tail L =>
  refine ZAM (ZAS 0 (ks := [1]) (H := ZDL n tail L.ss.st L.ss.dl L.no L.ah L.sp) (np := 4) rfl (by decide) rfl rfl rfl) ?_
  refine ZAP hP ZKh rfl rfl ?_
  conv => whnf
  refine cA (hq) ?_
  (refine ZAD (H := (ZDL n tail L.ss.st L.ss.dl L.no L.ah L.sp)) (np := 4) 0 1 (Nat.le_of_ble_eq_true rfl) ?_; conv => whnf); (refine zK ?_)
  exact fA
 | mc tail L =>
  refine ZAM (ZAS 0 (ks := [1]) (H := ZDM n tail L.ss.st L.ss.dl L.sp L.ot) (np := 4) rfl (by decide) rfl rfl rfl) ?_
  refine ZAP hP ZKi rfl rfl ?_
  conv => whnf
  refine cA (hq) ?_
  (refine ZAD (H := (ZDM n tail L.ss.st L.ss.dl L.sp L.ot)) (np := 4) 0 1 (Nat.le_of_ble_eq_true rfl) ?_; conv => whnf); (refine zK ?_)
  exact fA
 | ab E tail L =>
  refine ZAM (ZAS 0 (ks := [1]) (H := ZBZ n E tail L.ss.st L.ss.dl L.sp L.tr L.no L.ot) (np := 5) rfl (by decide) rfl rfl rfl) ?_
  refine ZAP hP ZIF rfl rfl ?_
  conv => whnf
  refine cA (hq) ?_
  (refine ZAD (H := (ZBZ n E tail L.ss.st L.ss.dl L.sp L.tr L.no L.ot)) (np := 5) 0 1 (Nat.le_of_ble_eq_true rfl) ?_; conv => whnf); (refine zK ?_)
  exact fA
 | hi tail L =>
  refine ZAM (ZAS 0 (ks := [1]) (H := ZCU n tail L.ss.st L.ss.dl L.cl L.no L.ah L.la L.wo L.sp) (np := 4) rfl (by decide) rfl rfl rfl) ?_
  refine ZAP hP ZJV rfl rfl ?_
  conv => whnf
  refine cA (hq) ?_
  (refine ZAD (H := (ZCU n tail L.ss.st L.ss.dl L.cl L.no L.ah L.la L.wo L.sp)) (np := 4) 0 1 (Nat.le_of_ble_eq_true rfl) ?_; conv => whnf); (refine zK ?_)
  exact fA
theorem ZMh : IvS 221 "Len" 209 := ZAe fun a args w => by kernel_rfl
theorem ZKj : IvS 224 "Len" 209 := ZAe fun a args w => by kernel_rfl
theorem ZOC : IvS 227 "Len" 209 := ZAe fun a args w => by kernel_rfl
theorem ZOD : IvS 230 "Len" 209 := ZAe fun a args w => by kernel_rfl
theorem ZKk : IvS 233 "Len" 209 := ZAe fun a args w => by kernel_rfl
theorem ZMi : IvS 236 "Len" 209 := ZAe fun a args w => by kernel_rfl
theorem ZSa (S : K1) (n : Nat)  (hn : n <= 64) :
  ZDN Tryz.prog (.l (.i S.T 0)) "Len" [(0, some (.ob [1] (S.R n)))] 2 [] fun x h k => x = sInt .i64 (n : Int) /\ k = 2 /\ h = [(0, some (.ob [1] (S.R n)))] := by
 have hq := ZBd n S.ss.st S.ss.dl S.tm S.pr
 refine ZA5 fun G hP hA => ?_
 cases S with
 | fl nx ow L =>
  refine ZAM (ZAS 0 (ks := [1]) (H := ZBt n nx ow L.ss.st L.ss.dl L.nu L.dr) (np := 5) rfl (by decide) rfl rfl rfl) ?_
  refine ZAP hP ZMh rfl rfl ?_
  conv => whnf
  refine cA (hq) ?_
  (refine ZAD (H := (ZBt n nx ow L.ss.st L.ss.dl L.nu L.dr)) (np := 5) 0 1 (Nat.le_of_ble_eq_true rfl) ?_; conv => whnf); (refine zK ?_)
  exact fA
 | sl tail m L =>
  refine ZAM (ZAS 0 (ks := [1]) (H := ZA9 n tail m L.ss.st L.ss.dl L.nu L.sp) (np := 4) rfl (by decide) rfl rfl rfl) ?_
  refine ZAP hP ZKj rfl rfl ?_
  conv => whnf
  refine cA (hq) ?_
  (refine ZAD (H := (ZA9 n tail m L.ss.st L.ss.dl L.nu L.sp)) (np := 4) 0 1 (Nat.le_of_ble_eq_true rfl) ?_; conv => whnf); (refine zK ?_)
  exact fA
 | cl tail L =>
  refine ZAM (ZAS 0 (ks := [1]) (H := ZDL n tail L.ss.st L.ss.dl L.no L.ah L.sp) (np := 4) rfl (by decide) rfl rfl rfl) ?_
  refine ZAP hP ZOC rfl rfl ?_
  conv => whnf
  refine cA (hq) ?_
  (refine ZAD (H := (ZDL n tail L.ss.st L.ss.dl L.no L.ah L.sp)) (np := 4) 0 1 (Nat.le_of_ble_eq_true rfl) ?_; conv => whnf); (refine zK ?_)
  exact fA
 | mc tail L =>
  refine ZAM (ZAS 0 (ks := [1]) (H := ZDM n tail L.ss.st L.ss.dl L.sp L.ot) (np := 4) rfl (by decide) rfl rfl rfl) ?_
  refine ZAP hP ZOD rfl rfl ?_
  conv => whnf
  refine cA (hq) ?_
  (refine ZAD (H := (ZDM n tail L.ss.st L.ss.dl L.sp L.ot)) (np := 4) 0 1 (Nat.le_of_ble_eq_true rfl) ?_; conv => whnf); (refine zK ?_)
  exact fA
 | ab E tail L =>
  refine ZAM (ZAS 0 (ks := [1]) (H := ZBZ n E tail L.ss.st L.ss.dl L.sp L.tr L.no L.ot) (np := 5) rfl (by decide) rfl rfl rfl) ?_
  refine ZAP hP ZKk rfl rfl ?_
  conv => whnf
  refine cA (hq) ?_
  (refine ZAD (H := (ZBZ n E tail L.ss.st L.ss.dl L.sp L.tr L.no L.ot)) (np := 5) 0 1 (Nat.le_of_ble_eq_true rfl) ?_; conv => whnf); (refine zK ?_)
  exact fA
 | hi tail L =>
  refine ZAM (ZAS 0 (ks := [1]) (H := ZCU n tail L.ss.st L.ss.dl L.cl L.no L.ah L.la L.wo L.sp) (np := 4) rfl (by decide) rfl rfl rfl) ?_
  refine ZAP hP ZMi rfl rfl ?_
  conv => whnf
  refine cA (hq) ?_
  (refine ZAD (H := (ZCU n tail L.ss.st L.ss.dl L.cl L.no L.ah L.la L.wo L.sp)) (np := 4) 0 1 (Nat.le_of_ble_eq_true rfl) ?_; conv => whnf); (refine zK ?_)
  exact fA
def inN : Nat -> Nat -> Nat
 | 1, _ => 2
 | 3, m => 2 + m
 | _, m => 1 + 2 * m
def inHs : Nat -> (Nat -> Int) -> Nat -> (Nat -> Int) -> Nat -> Nat -> Int
 | 1, hs, M, h, _ => ZGh hs M h
 | 3, hs, M, h, m => ZIU hs M h m
 | _, hs, M, h, m => ZIY hs M h m
def inWs : Nat -> (Nat -> Int) -> Nat -> Nat -> Nat -> Int
 | 1, ws, M, _ => ZEX ws M 0
 | 3, ws, M, m => ZIV ws M m
 | _, ws, M, m => ZIZ ws M m
def cnt (h : Nat -> Int) : Nat -> Nat -> Nat
 | 0, _ => 0
 | i + 1, j => cnt h i j + if h i = (j : Int) then 1 else 0
def l3 (l : Nat) (cn : Nat -> Nat) (p0 : Nat × (Nat -> Int) × (Nat -> Int)) : Nat -> Nat × (Nat -> Int) × (Nat -> Int)
 | 0 => p0
 | i + 1 => bif Nat.blt 0 (cn i) then ((l3 l cn p0 i).1 + inN l (cn i), inHs l (l3 l cn p0 i).2.1 (l3 l cn p0 i).1 (fun _ => (i : Int)) (cn i), inWs l (l3 l cn p0 i).2.2 (l3 l cn p0 i).1 (cn i)) else l3 l cn p0 i
def lb (cn : Nat -> Nat) (i j : Nat) : Bool := Nat.blt j i && Nat.blt 0 (cn j)


structure CK where
 M : Nat
 bu : Int
 cn : Nat -> Nat
 no : Nat -> Nat
 inn : Nat -> Int
 gT : Nat
 lT : Nat
structure CO where
 ss : SS
 td : Nat -> Nat
 pa : Nat -> Int
 g : K1
 lo : Nat -> K1
def CK.b (K : CK) (c : Nat) : Bool := lb K.cn 8 c
def tdV : Nat -> Value
 | 0 => .nilFunc
 | f + 1 => .func (.func (f + 1)) #[] #[]
def plE (no : Nat -> Nat) (inn : Nat -> Int) (td : Nat -> Nat) (pa : Nat -> Int) : Nat -> List Value := fun t => [.int .i64 (no t : Int), .int .i64 (inn t), tdV (td t), .int .u32 (pa t)]
def updN (f : Nat -> Nat) (i : Nat) (v : Nat) : Nat -> Nat := fun j => if j = i then v else f j
def updK (f : Nat -> K1) (i : Nat) (v : K1) : Nat -> K1 := fun j => if j = i then v else f j
def loE (K : CK) (lo : Nat -> K1) (c j : Nat) : Ent := match Nat.beq j c with | true => .ob [1] ((lo j).R (K.cn j)) | false => .ob [1] (OptR (K.b j) ((lo j).R (K.cn j)))
def ioC (K : CK) (c j : Nat) : LV := match Nat.beq j c with | true => .i K.lT (5 + j) | false => .io (K.b j) K.lT (5 + j)
def ZSb (K : CK) (m c : Nat) : List LV := [.p 2 0 0 0, .p 1 0 0 0, .v (.int .i64 K.M), .v (.int .u32 K.bu), .i K.gT 3, ioC K c 0, ioC K c 1, ioC K c 2, ioC K c 3, ioC K c 4, ioC K c 5, ioC K c 6, ioC K c 7, .s 4 4 0 m 0]
def ZE9 (K : CK) (m c : Nat) (L : CO) : Heap :=
 [(0, some (.st (ZSb K m c))), (2, some (ZBr m L.ss.st L.ss.dl false false)), (3, some (.ob [1] (L.g.R 8))), (4, some (.ar 4 m (plE K.no K.inn L.td L.pa))), (5, some (loE K L.lo c 0)), (6, some (loE K L.lo c 1)), (7, some (loE K L.lo c 2)), (8, some (loE K L.lo c 3)), (9, some (loE K L.lo c 4)), (10, some (loE K L.lo c 5)), (11, some (loE K L.lo c 6)), (12, some (loE K L.lo c 7))]
def cohG (K : CK) (m nt nw c : Nat) (hs : Nat -> Int) (L : CO) (s : PS) : Heap := (1, some (ZBC nt nw hs s)) :: ZE9 K m c L
theorem ZGS (no : Nat -> Nat) (inn : Nat -> Int) (td : Nat -> Nat) (pa : Nat -> Int) (i f : Nat) (j : Nat) : mrgL (j = i) (ZAI (plE no inn td pa j) 2 [tdV f]) (plE no inn td pa j) = plE no inn (updN td i f) pa j := by
 rw [ZEp _ _ _ (by rw [ZAi])]
 simp only [plE, updN, ZAI, setL]
 by_cases h : j = i <;> simp [h]
theorem ZFA (no : Nat -> Nat) (inn : Nat -> Int) (td : Nat -> Nat) (pa : Nat -> Int) (i : Nat) (v : Int) (j : Nat) : mrgL (j = i) (ZAI (plE no inn td pa j) 3 [.int .u32 v]) (plE no inn td pa j) = plE no inn td (updF pa i v) j := by
 rw [ZEp _ _ _ (by rw [ZAi])]
 simp only [plE, updF, ZAI, setL]
 by_cases h : j = i <;> simp [h]
theorem ZFB (f : Nat -> Nat) (i u v : Nat) : updN (updN f i u) i v = updN f i v := by
 funext j
 simp only [updN]
 by_cases h : j = i <;> simp [h]
theorem ZD0 {P : Program} {G : Ctx} {f : FuncId} {pre : Heap} {np : Nat} {args : List AV} {X : SV} {M : Nat} {H : Heap} {xs : List AV} {h : Heap} {n : Nat} {K : SV -> Heap -> Nat -> Prop} (hP : G.P = P) (hsp : ZAE P f pre np args fun x h m => x = X /\ m = M /\ h = H) (l : List Nat)
  (h1 : l.length = np) (h2 : l.all (fun j => decide (j < n)) = true) (h3 : xs = args.map (AV.ren (ren1 l n))) (h4 : ZBB (ren1 l n) h pre) (h5 : ZBv (ren1 l n) pre = true) (h6 : ZEv (ren2 l n) M H = true) (h7 : K (X.ren (ren2 l n)) (renH (ren2 l n) H ++ tomb (ren1 l n) pre) (n + (M - np))) : CallP G f xs h n K := by
 subst hP
 exact ZGN hsp l h1 h2 h3 h4 h5 h6 h7
theorem ZAm (no : Nat -> Nat) (inn : Nat -> Int) (td : Nat -> Nat) (pa : Nat -> Int) (i : Nat) (j : Nat) : mrgL (j = i) (ZAI (plE no inn td pa j) 2 [Value.func (Fn.func 275) #[] #[]]) (plE no inn td pa j) = plE no inn (updN td i 275) pa j := ZGS no inn td pa i 275 j
theorem ZA1 (no : Nat -> Nat) (inn : Nat -> Int) (td : Nat -> Nat) (pa : Nat -> Int) (i : Nat) (j : Nat) : mrgL (j = i) (ZAI (plE no inn td pa j) 2 [Value.func (Fn.func 278) #[] #[]]) (plE no inn td pa j) = plE no inn (updN td i 278) pa j := ZGS no inn td pa i 278 j
theorem ZA2 (no : Nat -> Nat) (inn : Nat -> Int) (td : Nat -> Nat) (pa : Nat -> Int) (i : Nat) (j : Nat) : mrgL (j = i) (ZAI (plE no inn td pa j) 2 [Value.func (Fn.func 281) #[] #[]]) (plE no inn td pa j) = plE no inn (updN td i 281) pa j := ZGS no inn td pa i 281 j
theorem ZAn (no : Nat -> Nat) (inn : Nat -> Int) (td : Nat -> Nat) (pa : Nat -> Int) (i : Nat) (j : Nat) : mrgL (j = i) (ZAI (plE no inn td pa j) 2 [Value.func (Fn.func 283) #[] #[]]) (plE no inn td pa j) = plE no inn (updN td i 283) pa j := ZGS no inn td pa i 283 j
theorem ZAo (no : Nat -> Nat) (inn : Nat -> Int) (td : Nat -> Nat) (pa : Nat -> Int) (i : Nat) (j : Nat) : mrgL (j = i) (ZAI (plE no inn td pa j) 2 [Value.func (Fn.func 274) #[] #[]]) (plE no inn td pa j) = plE no inn (updN td i 274) pa j := ZGS no inn td pa i 274 j
theorem ZAp (no : Nat -> Nat) (inn : Nat -> Int) (td : Nat -> Nat) (pa : Nat -> Int) (i : Nat) (j : Nat) : mrgL (j = i) (ZAI (plE no inn td pa j) 2 [Value.func (Fn.func 277) #[] #[]]) (plE no inn td pa j) = plE no inn (updN td i 277) pa j := ZGS no inn td pa i 277 j
theorem ZA3 (no : Nat -> Nat) (inn : Nat -> Int) (td : Nat -> Nat) (pa : Nat -> Int) (i : Nat) (j : Nat) : mrgL (j = i) (ZAI (plE no inn td pa j) 2 [Value.func (Fn.func 280) #[] #[]]) (plE no inn td pa j) = plE no inn (updN td i 280) pa j := ZGS no inn td pa i 280 j
theorem ZAd (no : Nat -> Nat) (inn : Nat -> Int) (td : Nat -> Nat) (pa : Nat -> Int) (i : Nat) (j : Nat) : mrgL (j = i) (ZAI (plE no inn td pa j) 2 [Value.func (Fn.func 276) #[] #[]]) (plE no inn td pa j) = plE no inn (updN td i 276) pa j := ZGS no inn td pa i 276 j
theorem ZAq (no : Nat -> Nat) (inn : Nat -> Int) (td : Nat -> Nat) (pa : Nat -> Int) (i : Nat) (j : Nat) : mrgL (j = i) (ZAI (plE no inn td pa j) 2 [Value.func (Fn.func 279) #[] #[]]) (plE no inn td pa j) = plE no inn (updN td i 279) pa j := ZGS no inn td pa i 279 j
theorem ZBR (no : Nat -> Nat) (inn : Nat -> Int) (td : Nat -> Nat) (pa : Nat -> Int) (i : Nat) (j : Nat) : mrgL (j = i) (ZAI (plE no inn td pa j) 2 [Value.func (Fn.func 284) #[] #[]]) (plE no inn td pa j) = plE no inn (updN td i 284) pa j := ZGS no inn td pa i 284 j
theorem ZBS (no : Nat -> Nat) (inn : Nat -> Int) (td : Nat -> Nat) (pa : Nat -> Int) (i : Nat) (j : Nat) : mrgL (j = i) (ZAI (plE no inn td pa j) 2 [Value.nilFunc]) (plE no inn td pa j) = plE no inn (updN td i 0) pa j := ZGS no inn td pa i 0 j
structure CoL (K : CK) (t : Nat) (lo : Nat -> K1) : Prop where
 c : K.no t < 8
 b : K.b (K.no t) = true
 cn : K.cn (K.no t) <= 64
 ok : (lo (K.no t)).ok (K.cn (K.no t))
 T : (lo (K.no t)).T = K.lT
structure CoG (K : CK) (g : K1) : Prop where
 ok : g.ok 8
 T : g.T = K.gT
def k1Lk (n : Nat) (S : K1) (t : Int) : K1 := S.set (lkSt n S.ss.st S.tm t (-1)) (lkDl n S.ss.st S.ss.dl S.tm t (-1))
def k1Ul (n : Nat) (S : K1) (t : Int) : K1 := S.set (ulSt n S.ss.st t 3) S.ss.dl
def k1Pr (n : Nat) (S : K1) (t : Int) : K1 := S.set (prSt n S.ss.st S.pr t) S.ss.dl
def coA (K : CK) (t : Nat) : Int := (K.M : Int) + (K.no t : Int)
def ZGT (K : CK) (t : Nat) (L : CO) : CO := pick (decide (L.ss.st t = 3)) ⟨L.ss, updN L.td t 274, L.pa, L.g, L.lo⟩ ⟨L.ss, updN L.td t 275, L.pa, L.g, updK L.lo (K.no t) (k1Lk (K.cn (K.no t)) (L.lo (K.no t)) (K.inn t))⟩
def coLs (K : CK) (nw : Nat) (t ta : Nat) (now : Int) (L : CO) (s : PS) : Dd × K1 × PS := (L.lo (K.no t)).step (K.cn (K.no t)) nw (K.inn t) now ta s
def coGs (K : CK) (nw : Nat) (t ta : Nat) (now : Int) (L : CO) (s : PS) : Dd × K1 × PS := L.g.step 8 nw (K.no t : Int) now ta s
def ZGU (K : CK) (t : Nat) (L : CO) (r : Dd × K1 × PS) : Dd × CO × PS := (⟨0, r.1.q, false, false⟩, ⟨L.ss, pick (decide (r.1.e = 1)) (updN L.td t 278) L.td, L.pa, L.g, updK L.lo (K.no t) r.2.1⟩, r.2.2)
def ZHa (K : CK) (nw t ta : Nat) (L : CO) (s : PS) : Dd × CO × PS :=
 pick (decide (rdV nw (coA K t) s = 0)) (evD 0, ⟨L.ss, updN L.td t 281, L.pa, k1Lk 8 L.g (K.no t : Int), L.lo⟩, rdS nw ta (coA K t) s) (evD 1, L, rdS nw ta (coA K t) s)
def ZJW (t : Nat) (L : CO) (r : Dd × K1 × PS) : Dd × CO × PS := (⟨0, false, r.1.q, false⟩, ⟨L.ss, pick (decide (r.1.e = 1)) (updN L.td t 283) L.td, L.pa, r.2.1, L.lo⟩, r.2.2)
def ZGV (K : CK) (nw t ta : Nat) (L : CO) (s : PS) : Dd × CO × PS := (⟨1, false, false, true⟩, L, wtS nw ta (coA K t) 1 s)
def ZFg (K : CK) (nw t ta : Nat) (L : CO) (s : PS) : Dd × CO × PS :=
 (evD 0, pick (decide (rdV nw (coA K t) s < K.bu)) ⟨L.ss, updN L.td t 277, updF L.pa t (rdV nw (coA K t) s), L.g, updK L.lo (K.no t) (k1Pr (K.cn (K.no t)) (L.lo (K.no t)) (K.inn t))⟩ ⟨L.ss, updN L.td t 276, updF L.pa t (rdV nw (coA K t) s), L.g, L.lo⟩, rdS nw ta (coA K t) s)
def ZGW (K : CK) (t : Nat) (L : CO) (r : Dd × K1 × PS) : Dd × CO × PS := (evD 0, ⟨L.ss, updN L.td t (pick (decide (r.1.e = 5)) 280 276), L.pa, L.g, updK L.lo (K.no t) r.2.1⟩, r.2.2)
def ZHb (K : CK) (t : Nat) (L : CO) : CO := ⟨L.ss, updN L.td t 284, L.pa, L.g, updK L.lo (K.no t) (k1Ul (K.cn (K.no t)) (L.lo (K.no t)) (K.inn t))⟩
def ZJX (K : CK) (nw t ta : Nat) (L : CO) (s : PS) : Dd × CO × PS := (evD 0, ZHb K t L, wtS nw ta (coA K t) (u32p (L.pa t)) s)
def ZFC (K : CK) (nw t ta : Nat) (L : CO) (s : PS) : Dd × CO × PS := (evD 0, ⟨L.ss, updN L.td t 279, L.pa, k1Ul 8 L.g (K.no t : Int), L.lo⟩, wtS nw ta (coA K t) 0 s)
def ZFh (K : CK) (t : Nat) (L : CO) (r : Dd × K1 × PS) : Dd × CO × PS := (evD 0, pick (decide (r.1.e = 3)) (ZHb K t ⟨L.ss, L.td, L.pa, r.2.1, L.lo⟩) ⟨L.ss, L.td, L.pa, r.2.1, L.lo⟩, r.2.2)
def ZOE (K : CK) (t : Nat) (L : CO) (r : Dd × K1 × PS) : Dd × CO × PS := (evD r.1.e, ⟨L.ss, L.td, L.pa, L.g, updK L.lo (K.no t) r.2.1⟩, r.2.2)
def ZKl (K : CK) (nw : Nat) (t ta : Nat) (now : Int) (L : CO) (s : PS) : Dd × CO × PS :=
 pick (decide (L.td t = 275)) (ZGU K t L (coLs K nw t ta now L s)) (pick (decide (L.td t = 278)) (ZHa K nw t ta L s) (pick (decide (L.td t = 281)) (ZJW t L (coGs K nw t ta now L s))
 (pick (decide (L.td t = 283)) (ZGV K nw t ta L s) (pick (decide (L.td t = 274)) (ZFg K nw t ta L s) (pick (decide (L.td t = 277)) (ZGW K t L (coLs K nw t ta now L s))
 (pick (decide (L.td t = 280)) (ZJX K nw t ta L s) (pick (decide (L.td t = 276)) (ZFC K nw t ta L s) (pick (decide (L.td t = 279)) (ZFh K t L (coGs K nw t ta now L s)) (ZOE K t L (coLs K nw t ta now L s))))))))))
theorem ZJY (K : CK) (m nt nw t ta : Nat) (now : Int) (hs : Nat -> Int) (L : CO) (s : PS) (ht : t < m) (hm : m <= 64) (hta : ta < nt) (hnt : nt <= 64) (hnw : nw <= 4096) (H : CoL K t L.lo) (HG : CoG K L.g) (hM : K.M <= 4096) :
  ZAE Tryz.prog 275 (cohG K m nt nw (K.no t) hs L s) 13 [.l (.p 0 0 0 0), .l (.p 4 4 t 0), .l (.v (.int .i64 ta)), .l (.v (.int .i64 now))] fun x h k =>
   x = didO (ZGU K t L (coLs K nw t ta now L s)).1 /\ k = 13 /\ h = cohG K m nt nw (K.no t) hs (ZGU K t L (coLs K nw t ta now L s)).2.1 (ZGU K t L (coLs K nw t ta now L s)).2.2 := by
 have hc := H.c
 have hb := H.b
 have hst := ZHZ (L.lo (K.no t)) (K.cn (K.no t)) nt nw ta (K.inn t) now hs s hta hnt H.cn hnw H.ok
 rw [H.T] at hst
 unfold ZGU
 change ZDN _ _ _ _ _ _ (fun x h k => x = didO (coLs K nw t ta now L s).1 /\ k = 2 /\ h = [(0, some (.ob [1] ((coLs K nw t ta now L s).2.1.R (K.cn (K.no t))))), (1, some (ZBC nt nw hs (coLs K nw t ta now L s).2.2))]) at hst
 generalize coLs K nw t ta now L s = r at hst ⊢
 by_cases e1 : r.1.e = 1
 ·simp only [e1, decide_true, pick]
  generalize hcc : K.no t = c at *
  have hci : (c : Int) < 8 := by omega
  rcases (show c = 0 \/ c = 1 \/ c = 2 \/ c = 3 \/ c = 4 \/ c = 5 \/ c = 6 \/ c = 7 by omega) with rfl | rfl | rfl | rfl | rfl | rfl | rfl | rfl
  all_goals
   refine sE Tryz.func275 ic275_eq [.ca 8 4] fun G hP hA => ?_
   unfold evF ic275
   conv => whnf
   refine gr1 hcc hst ?_
   refine fQ ?_ ?_
   ·rfl
   ·exact ⟨ZAB, rfl, ZAB, ZAB, ⟨rfl, rfl, fun j hj => by simp only [Nat.zero_add, ZAm, ZA1, ZA2, ZAn, ZAo, ZAp, ZA3, ZAd, ZAq, ZBR, ZBS, ZFA, ZFB, ZAs]⟩, ZAB, ZAB, ZAB, ZAB, ZAB, ZAB, ZAB, ZAB, trivial⟩
 ·simp only [e1, decide_false, pick]
  generalize hcc : K.no t = c at *
  have hci : (c : Int) < 8 := by omega
  rcases (show c = 0 \/ c = 1 \/ c = 2 \/ c = 3 \/ c = 4 \/ c = 5 \/ c = 6 \/ c = 7 by omega) with rfl | rfl | rfl | rfl | rfl | rfl | rfl | rfl
  all_goals
   refine sE Tryz.func275 ic275_eq [.ca 8 4] fun G hP hA => ?_
   unfold evF ic275
   conv => whnf
   refine gr1 hcc hst ?_
   refine fQ ?_ ?_
   ·rfl
   ·exact ⟨ZAB, rfl, ZAB, ZAB, ⟨rfl, rfl, fun j hj => by simp only [Nat.zero_add, ZAm, ZA1, ZA2, ZAn, ZAo, ZAp, ZA3, ZAd, ZAq, ZBR, ZBS, ZFA, ZFB, ZAs]⟩, ZAB, ZAB, ZAB, ZAB, ZAB, ZAB, ZAB, ZAB, trivial⟩
theorem ZKm (K : CK) (m nt nw t ta : Nat) (now : Int) (hs : Nat -> Int) (L : CO) (s : PS) (ht : t < m) (hm : m <= 64) (hta : ta < nt) (hnt : nt <= 64) (hnw : nw <= 4096) (H : CoL K t L.lo) (HG : CoG K L.g) (hM : K.M <= 4096) :
  ZAE Tryz.prog 278 (cohG K m nt nw (K.no t) hs L s) 13 [.l (.p 0 0 0 0), .l (.p 4 4 t 0), .l (.v (.int .i64 ta)), .l (.v (.int .i64 now))] fun x h k =>
   x = didO (ZHa K nw t ta L s).1 /\ k = 13 /\ h = cohG K m nt nw (K.no t) hs (ZHa K nw t ta L s).2.1 (ZHa K nw t ta L s).2.2 := by
 have hc := H.c
 have hb := H.b
 have h1 := ldS nt nw hs s ta (coA K t) hta hnt hnw
 have hlk := ZOB L.g 8 (K.no t : Int) (-1) (by omega)
 rw [HG.T] at hlk
 unfold ZHa
 by_cases e1 : rdV nw (coA K t) s = 0
 ·simp only [e1, decide_true, pick]
  unfold coA at *
  generalize hcc : K.no t = c at *
  have hci : (c : Int) < 8 := by omega
  rcases (show c = 0 \/ c = 1 \/ c = 2 \/ c = 3 \/ c = 4 \/ c = 5 \/ c = 6 \/ c = 7 by omega) with rfl | rfl | rfl | rfl | rfl | rfl | rfl | rfl
  all_goals
   refine sE Tryz.func278 ic278_eq [.ca 8 4] fun G hP hA => ?_
   unfold evF ic278
   conv => whnf
   refine gr2 hcc h1 hlk ?_
   refine fQ ?_ ?_
   ·rfl
   ·exact ⟨ZAB, rfl, ZAB, ZAB, ⟨rfl, rfl, fun j hj => by simp only [Nat.zero_add, ZAm, ZA1, ZA2, ZAn, ZAo, ZAp, ZA3, ZAd, ZAq, ZBR, ZBS, ZFA, ZFB, ZAs]⟩, ZAB, ZAB, ZAB, ZAB, ZAB, ZAB, ZAB, ZAB, trivial⟩
 ·simp only [e1, decide_false, pick]
  unfold coA at *
  generalize hcc : K.no t = c at *
  have hci : (c : Int) < 8 := by omega
  rcases (show c = 0 \/ c = 1 \/ c = 2 \/ c = 3 \/ c = 4 \/ c = 5 \/ c = 6 \/ c = 7 by omega) with rfl | rfl | rfl | rfl | rfl | rfl | rfl | rfl
  all_goals
   refine sE Tryz.func278 ic278_eq [.ca 8 4] fun G hP hA => ?_
   unfold evF ic278
   conv => whnf
   refine gr2 hcc h1 hlk ?_
   exact fA
theorem ZKn (K : CK) (m nt nw t ta : Nat) (now : Int) (hs : Nat -> Int) (L : CO) (s : PS) (ht : t < m) (hm : m <= 64) (hta : ta < nt) (hnt : nt <= 64) (hnw : nw <= 4096) (H : CoL K t L.lo) (HG : CoG K L.g) (hM : K.M <= 4096) :
  ZAE Tryz.prog 281 (cohG K m nt nw (K.no t) hs L s) 13 [.l (.p 0 0 0 0), .l (.p 4 4 t 0), .l (.v (.int .i64 ta)), .l (.v (.int .i64 now))] fun x h k =>
   x = didO (ZJW t L (coGs K nw t ta now L s)).1 /\ k = 13 /\ h = cohG K m nt nw (K.no t) hs (ZJW t L (coGs K nw t ta now L s)).2.1 (ZJW t L (coGs K nw t ta now L s)).2.2 := by
 have hc := H.c
 have hb := H.b
 have hst := ZHZ L.g 8 nt nw ta (K.no t : Int) now hs s hta hnt (by omega) hnw HG.ok
 rw [HG.T] at hst
 unfold ZJW
 change ZDN _ _ _ _ _ _ (fun x h k => x = didO (coGs K nw t ta now L s).1 /\ k = 2 /\ h = [(0, some (.ob [1] ((coGs K nw t ta now L s).2.1.R 8))), (1, some (ZBC nt nw hs (coGs K nw t ta now L s).2.2))]) at hst
 generalize coGs K nw t ta now L s = r at hst ⊢
 by_cases e1 : r.1.e = 1
 ·simp only [e1, decide_true, pick]
  generalize hcc : K.no t = c at *
  have hci : (c : Int) < 8 := by omega
  rcases (show c = 0 \/ c = 1 \/ c = 2 \/ c = 3 \/ c = 4 \/ c = 5 \/ c = 6 \/ c = 7 by omega) with rfl | rfl | rfl | rfl | rfl | rfl | rfl | rfl
  all_goals
   refine sE Tryz.func281 ic281_eq [.ca 8 4] fun G hP hA => ?_
   unfold evF ic281
   conv => whnf
   refine gr1 hcc hst ?_
   refine fQ ?_ ?_
   ·rfl
   ·exact ⟨ZAB, rfl, ZAB, ZAB, ⟨rfl, rfl, fun j hj => by simp only [Nat.zero_add, ZAm, ZA1, ZA2, ZAn, ZAo, ZAp, ZA3, ZAd, ZAq, ZBR, ZBS, ZFA, ZFB, ZAs]⟩, ZAB, ZAB, ZAB, ZAB, ZAB, ZAB, ZAB, ZAB, trivial⟩
 ·simp only [e1, decide_false, pick]
  generalize hcc : K.no t = c at *
  have hci : (c : Int) < 8 := by omega
  rcases (show c = 0 \/ c = 1 \/ c = 2 \/ c = 3 \/ c = 4 \/ c = 5 \/ c = 6 \/ c = 7 by omega) with rfl | rfl | rfl | rfl | rfl | rfl | rfl | rfl
  all_goals
   refine sE Tryz.func281 ic281_eq [.ca 8 4] fun G hP hA => ?_
   unfold evF ic281
   conv => whnf
   refine gr1 hcc hst ?_
   exact fA
theorem ZJZ (K : CK) (m nt nw t ta : Nat) (now : Int) (hs : Nat -> Int) (L : CO) (s : PS) (ht : t < m) (hm : m <= 64) (hta : ta < nt) (hnt : nt <= 64) (hnw : nw <= 4096) (H : CoL K t L.lo) (HG : CoG K L.g) (hM : K.M <= 4096) :
  ZAE Tryz.prog 283 (cohG K m nt nw (K.no t) hs L s) 13 [.l (.p 0 0 0 0), .l (.p 4 4 t 0), .l (.v (.int .i64 ta)), .l (.v (.int .i64 now))] fun x h k =>
   x = didO (ZGV K nw t ta L s).1 /\ k = 13 /\ h = cohG K m nt nw (K.no t) hs (ZGV K nw t ta L s).2.1 (ZGV K nw t ta L s).2.2 := by
 have hc := H.c
 have hb := H.b
 have h1 := stS nt nw hs s ta (coA K t) 1 hta hnt hnw
 unfold ZGV
 unfold coA at *
 generalize hcc : K.no t = c at *
 have hci : (c : Int) < 8 := by omega
 rcases (show c = 0 \/ c = 1 \/ c = 2 \/ c = 3 \/ c = 4 \/ c = 5 \/ c = 6 \/ c = 7 by omega) with rfl | rfl | rfl | rfl | rfl | rfl | rfl | rfl
 all_goals
  refine sE Tryz.func283 ic283_eq [.ca 8 4] fun G hP hA => ?_
  unfold evF ic283
  conv => whnf
  refine gr1 hcc h1 ?_
  exact fA
theorem ZJa (K : CK) (m nt nw t ta : Nat) (now : Int) (hs : Nat -> Int) (L : CO) (s : PS) (ht : t < m) (hm : m <= 64) (hta : ta < nt) (hnt : nt <= 64) (hnw : nw <= 4096) (H : CoL K t L.lo) (HG : CoG K L.g) (hM : K.M <= 4096) :
  ZAE Tryz.prog 274 (cohG K m nt nw (K.no t) hs L s) 13 [.l (.p 0 0 0 0), .l (.p 4 4 t 0), .l (.v (.int .i64 ta)), .l (.v (.int .i64 now))] fun x h k =>
   x = didO (ZFg K nw t ta L s).1 /\ k = 13 /\ h = cohG K m nt nw (K.no t) hs (ZFg K nw t ta L s).2.1 (ZFg K nw t ta L s).2.2 := by
 have hc := H.c
 have hb := H.b
 have h1 := ldS nt nw hs s ta (coA K t) hta hnt hnw
 have hpr := ZQj (L.lo (K.no t)) (K.cn (K.no t)) (K.inn t) H.cn
 rw [H.T] at hpr
 unfold ZFg
 by_cases e1 : rdV nw (coA K t) s < K.bu
 ·simp only [e1, decide_true, pick]
  unfold coA at *
  generalize hcc : K.no t = c at *
  have hci : (c : Int) < 8 := by omega
  rcases (show c = 0 \/ c = 1 \/ c = 2 \/ c = 3 \/ c = 4 \/ c = 5 \/ c = 6 \/ c = 7 by omega) with rfl | rfl | rfl | rfl | rfl | rfl | rfl | rfl
  all_goals
   refine sE Tryz.func274 ic274_eq [.ca 8 4] fun G hP hA => ?_
   unfold evF ic274
   conv => whnf
   refine gr2 hcc h1 hpr ?_
   refine fQ ?_ ?_
   ·rfl
   ·exact ⟨ZAB, rfl, ZAB, ZAB, ⟨rfl, rfl, fun j hj => by simp only [Nat.zero_add, ZAm, ZA1, ZA2, ZAn, ZAo, ZAp, ZA3, ZAd, ZAq, ZBR, ZBS, ZFA, ZFB, ZAs]⟩, ZAB, ZAB, ZAB, ZAB, ZAB, ZAB, ZAB, ZAB, trivial⟩
 ·simp only [e1, decide_false, pick]
  unfold coA at *
  generalize hcc : K.no t = c at *
  have hci : (c : Int) < 8 := by omega
  rcases (show c = 0 \/ c = 1 \/ c = 2 \/ c = 3 \/ c = 4 \/ c = 5 \/ c = 6 \/ c = 7 by omega) with rfl | rfl | rfl | rfl | rfl | rfl | rfl | rfl
  all_goals
   refine sE Tryz.func274 ic274_eq [.ca 8 4] fun G hP hA => ?_
   unfold evF ic274
   conv => whnf
   refine gr2 hcc h1 hpr ?_
   refine fQ ?_ ?_
   ·rfl
   ·exact ⟨ZAB, rfl, ZAB, ZAB, ⟨rfl, rfl, fun j hj => by simp only [Nat.zero_add, ZAm, ZA1, ZA2, ZAn, ZAo, ZAp, ZA3, ZAd, ZAq, ZBR, ZBS, ZFA, ZFB, ZAs]⟩, ZAB, ZAB, ZAB, ZAB, ZAB, ZAB, ZAB, ZAB, trivial⟩
theorem ZJb (K : CK) (m nt nw t ta : Nat) (now : Int) (hs : Nat -> Int) (L : CO) (s : PS) (ht : t < m) (hm : m <= 64) (hta : ta < nt) (hnt : nt <= 64) (hnw : nw <= 4096) (H : CoL K t L.lo) (HG : CoG K L.g) (hM : K.M <= 4096) :
  ZAE Tryz.prog 277 (cohG K m nt nw (K.no t) hs L s) 13 [.l (.p 0 0 0 0), .l (.p 4 4 t 0), .l (.v (.int .i64 ta)), .l (.v (.int .i64 now))] fun x h k =>
   x = didO (ZGW K t L (coLs K nw t ta now L s)).1 /\ k = 13 /\ h = cohG K m nt nw (K.no t) hs (ZGW K t L (coLs K nw t ta now L s)).2.1 (ZGW K t L (coLs K nw t ta now L s)).2.2 := by
 have hc := H.c
 have hb := H.b
 have hst := ZHZ (L.lo (K.no t)) (K.cn (K.no t)) nt nw ta (K.inn t) now hs s hta hnt H.cn hnw H.ok
 rw [H.T] at hst
 unfold ZGW
 change ZDN _ _ _ _ _ _ (fun x h k => x = didO (coLs K nw t ta now L s).1 /\ k = 2 /\ h = [(0, some (.ob [1] ((coLs K nw t ta now L s).2.1.R (K.cn (K.no t))))), (1, some (ZBC nt nw hs (coLs K nw t ta now L s).2.2))]) at hst
 generalize coLs K nw t ta now L s = r at hst ⊢
 by_cases e1 : r.1.e = 5
 ·simp only [e1, decide_true, pick]
  generalize hcc : K.no t = c at *
  have hci : (c : Int) < 8 := by omega
  rcases (show c = 0 \/ c = 1 \/ c = 2 \/ c = 3 \/ c = 4 \/ c = 5 \/ c = 6 \/ c = 7 by omega) with rfl | rfl | rfl | rfl | rfl | rfl | rfl | rfl
  all_goals
   refine sE Tryz.func277 ic277_eq [.ca 8 4] fun G hP hA => ?_
   unfold evF ic277
   conv => whnf
   refine gr1 hcc hst ?_
   refine fQ ?_ ?_
   ·rfl
   ·exact ⟨ZAB, rfl, ZAB, ZAB, ⟨rfl, rfl, fun j hj => by simp only [Nat.zero_add, ZAm, ZA1, ZA2, ZAn, ZAo, ZAp, ZA3, ZAd, ZAq, ZBR, ZBS, ZFA, ZFB, ZAs]⟩, ZAB, ZAB, ZAB, ZAB, ZAB, ZAB, ZAB, ZAB, trivial⟩
 ·simp only [e1, decide_false, pick]
  generalize hcc : K.no t = c at *
  have hci : (c : Int) < 8 := by omega
  rcases (show c = 0 \/ c = 1 \/ c = 2 \/ c = 3 \/ c = 4 \/ c = 5 \/ c = 6 \/ c = 7 by omega) with rfl | rfl | rfl | rfl | rfl | rfl | rfl | rfl
  all_goals
   refine sE Tryz.func277 ic277_eq [.ca 8 4] fun G hP hA => ?_
   unfold evF ic277
   conv => whnf
   refine gr1 hcc hst ?_
   refine fQ ?_ ?_
   ·rfl
   ·exact ⟨ZAB, rfl, ZAB, ZAB, ⟨rfl, rfl, fun j hj => by simp only [Nat.zero_add, ZAm, ZA1, ZA2, ZAn, ZAo, ZAp, ZA3, ZAd, ZAq, ZBR, ZBS, ZFA, ZFB, ZAs]⟩, ZAB, ZAB, ZAB, ZAB, ZAB, ZAB, ZAB, ZAB, trivial⟩
theorem ZGX (K : CK) (m nt nw t ta : Nat) (now : Int) (hs : Nat -> Int) (L : CO) (s : PS) (ht : t < m) (hm : m <= 64) (hta : ta < nt) (hnt : nt <= 64) (hnw : nw <= 4096) (H : CoL K t L.lo) :
  ZAE Tryz.prog 282 (cohG K m nt nw (K.no t) hs L s) 13 [.l (.p 0 0 0 0), .l (.p 4 4 t 0)] fun x h k =>
   x = didO (evD 0) /\ k = 13 /\ h = cohG K m nt nw (K.no t) hs (ZHb K t L) s := by
 have hc := H.c
 have hb := H.b
 have hul := ZIB (L.lo (K.no t)) (K.cn (K.no t)) (K.inn t) H.cn
 rw [H.T] at hul
 unfold ZHb
 generalize hcc : K.no t = c at *
 have hci : (c : Int) < 8 := by omega
 rcases (show c = 0 \/ c = 1 \/ c = 2 \/ c = 3 \/ c = 4 \/ c = 5 \/ c = 6 \/ c = 7 by omega) with rfl | rfl | rfl | rfl | rfl | rfl | rfl | rfl
 all_goals
  refine sE Tryz.func282 ic282_eq [.ca 4 4] fun G hP hA => ?_
  unfold evF ic282
  conv => whnf
  refine gr1 hcc hul ?_
  refine fQ ?_ ?_
  ·rfl
  ·exact ⟨ZAB, rfl, ZAB, ZAB, ⟨rfl, rfl, fun j hj => by simp only [Nat.zero_add, ZAm, ZA1, ZA2, ZAn, ZAo, ZAp, ZA3, ZAd, ZAq, ZBR, ZBS, ZFA, ZFB, ZAs]⟩, ZAB, ZAB, ZAB, ZAB, ZAB, ZAB, ZAB, ZAB, trivial⟩
theorem ZMj (K : CK) (m nt nw t ta : Nat) (now : Int) (hs : Nat -> Int) (L : CO) (s : PS) (ht : t < m) (hm : m <= 64) (hta : ta < nt) (hnt : nt <= 64) (hnw : nw <= 4096) (H : CoL K t L.lo) (HG : CoG K L.g) (hM : K.M <= 4096) :
  ZAE Tryz.prog 284 (cohG K m nt nw (K.no t) hs L s) 13 [.l (.p 0 0 0 0), .l (.p 4 4 t 0), .l (.v (.int .i64 ta)), .l (.v (.int .i64 now))] fun x h k =>
   x = didO (ZOE K t L (coLs K nw t ta now L s)).1 /\ k = 13 /\ h = cohG K m nt nw (K.no t) hs (ZOE K t L (coLs K nw t ta now L s)).2.1 (ZOE K t L (coLs K nw t ta now L s)).2.2 := by
 have hc := H.c
 have hb := H.b
 have hst := ZHZ (L.lo (K.no t)) (K.cn (K.no t)) nt nw ta (K.inn t) now hs s hta hnt H.cn hnw H.ok
 rw [H.T] at hst
 unfold ZOE
 change ZDN _ _ _ _ _ _ (fun x h k => x = didO (coLs K nw t ta now L s).1 /\ k = 2 /\ h = [(0, some (.ob [1] ((coLs K nw t ta now L s).2.1.R (K.cn (K.no t))))), (1, some (ZBC nt nw hs (coLs K nw t ta now L s).2.2))]) at hst
 generalize coLs K nw t ta now L s = r at hst ⊢
 generalize hcc : K.no t = c at *
 have hci : (c : Int) < 8 := by omega
 rcases (show c = 0 \/ c = 1 \/ c = 2 \/ c = 3 \/ c = 4 \/ c = 5 \/ c = 6 \/ c = 7 by omega) with rfl | rfl | rfl | rfl | rfl | rfl | rfl | rfl
 all_goals
  refine sE Tryz.func284 ic284_eq [.ca 8 4] fun G hP hA => ?_
  unfold evF ic284
  conv => whnf
  refine gr1 hcc hst ?_
  exact fA
theorem ZIG (K : CK) (m nt nw t ta : Nat) (now : Int) (hs : Nat -> Int) (L : CO) (s : PS) (ht : t < m) (hm : m <= 64) (hta : ta < nt) (hnt : nt <= 64) (hnw : nw <= 4096) (H : CoL K t L.lo) (HG : CoG K L.g) (hM : K.M <= 4096) :
  ZAE Tryz.prog 276 (cohG K m nt nw (K.no t) hs L s) 13 [.l (.p 0 0 0 0), .l (.p 4 4 t 0), .l (.v (.int .i64 ta)), .l (.v (.int .i64 now))] fun x h k =>
   x = didO (ZFC K nw t ta L s).1 /\ k = 13 /\ h = cohG K m nt nw (K.no t) hs (ZFC K nw t ta L s).2.1 (ZFC K nw t ta L s).2.2 := by
 have hc := H.c
 have hb := H.b
 have h1 := stS nt nw hs s ta (coA K t) 0 hta hnt hnw
 have hul := ZIB L.g 8 (K.no t : Int) (by omega)
 rw [HG.T] at hul
 unfold ZFC
 unfold coA at *
 generalize hcc : K.no t = c at *
 have hci : (c : Int) < 8 := by omega
 rcases (show c = 0 \/ c = 1 \/ c = 2 \/ c = 3 \/ c = 4 \/ c = 5 \/ c = 6 \/ c = 7 by omega) with rfl | rfl | rfl | rfl | rfl | rfl | rfl | rfl
 all_goals
  refine sE Tryz.func276 ic276_eq [.ca 8 4] fun G hP hA => ?_
  unfold evF ic276
  conv => whnf
  refine gr2 hcc h1 hul ?_
  refine fQ ?_ ?_
  ·rfl
  ·exact ⟨ZAB, rfl, ZAB, ZAB, ⟨rfl, rfl, fun j hj => by simp only [Nat.zero_add, ZAm, ZA1, ZA2, ZAn, ZAo, ZAp, ZA3, ZAd, ZAq, ZBR, ZBS, ZFA, ZFB, ZAs]⟩, ZAB, ZAB, ZAB, ZAB, ZAB, ZAB, ZAB, ZAB, trivial⟩
theorem ZKo (K : CK) (m nt nw t ta : Nat) (now : Int) (hs : Nat -> Int) (L : CO) (s : PS) (ht : t < m) (hm : m <= 64) (hta : ta < nt) (hnt : nt <= 64) (hnw : nw <= 4096) (H : CoL K t L.lo) (HG : CoG K L.g) (hM : K.M <= 4096) :
  ZAE Tryz.prog 280 (cohG K m nt nw (K.no t) hs L s) 13 [.l (.p 0 0 0 0), .l (.p 4 4 t 0), .l (.v (.int .i64 ta)), .l (.v (.int .i64 now))] fun x h k =>
   x = didO (ZJX K nw t ta L s).1 /\ k = 13 /\ h = cohG K m nt nw (K.no t) hs (ZJX K nw t ta L s).2.1 (ZJX K nw t ta L s).2.2 := by
 have hc := H.c
 have hb := H.b
 have h1 := stS nt nw hs s ta (coA K t) (u32p (L.pa t)) hta hnt hnw
 have hcl := ZGX K m nt nw t ta now hs L (wtS nw ta (coA K t) (u32p (L.pa t)) s) ht hm hta hnt hnw H
 unfold ZJX
 generalize ZHb K t L = L2 at hcl ⊢
 unfold coA at *
 generalize hcc : K.no t = c at *
 have hci : (c : Int) < 8 := by omega
 rcases (show c = 0 \/ c = 1 \/ c = 2 \/ c = 3 \/ c = 4 \/ c = 5 \/ c = 6 \/ c = 7 by omega) with rfl | rfl | rfl | rfl | rfl | rfl | rfl | rfl
 all_goals
  refine sE Tryz.func280 ic280_eq [.ca 8 4] fun G hP hA => ?_
  unfold evF ic280
  conv => whnf
  (repeat (first | (rw [hcc]) | (((refine ZD0 hP hcl [0, 1, 2, 3, 4, 5, 6, 7, 8, 9, 10, 11, 12] rfl rfl rfl (by exact ZAB) rfl rfl ?_); conv => whnf)) | ((first | refine aI ?_ | refine a64 ?_ | refine a32 ?_ | refine dY ?_ | refine dN ?_ | refine ZAH ?_ | refine dI hP ?_); conv => whnf) | (refine And.intro (by (conv => whnf); first | exact ⟨rfl, rfl, rfl⟩ | (refine And.intro (by (first | omega | assumption | (simp only [ZAO]; omega) | (simp [ZAO]; omega))) ?_; (conv => whnf); first | exact ⟨rfl, rfl, rfl⟩ | (refine ⟨?_, ?_, ?_⟩ <;> first | rfl | (rw [ZAb]; first | done | rfl) | (rw [hcc]; first | done | rfl))) | (refine ⟨?_, ?_, ?_⟩ <;> first | rfl | (rw [ZAb]; first | done | rfl) | (rw [hcc]; first | done | rfl))) ?_; conv => whnf) | rw [natI] | rw [ZAb] | ((first | refine ZBx hP h1 ?_ | refine ZBO hP h1 ?_); (conv => whnf); refine zA ?_; conv => whnf) | (refine arW ?_; conv => whnf)))
  exact fA
theorem ZJc (K : CK) (m nt nw t ta : Nat) (now : Int) (hs : Nat -> Int) (L : CO) (s : PS) (ht : t < m) (hm : m <= 64) (hta : ta < nt) (hnt : nt <= 64) (hnw : nw <= 4096) (H : CoL K t L.lo) (HG : CoG K L.g) (hM : K.M <= 4096) :
  ZAE Tryz.prog 279 (cohG K m nt nw (K.no t) hs L s) 13 [.l (.p 0 0 0 0), .l (.p 4 4 t 0), .l (.v (.int .i64 ta)), .l (.v (.int .i64 now))] fun x h k =>
   x = didO (ZFh K t L (coGs K nw t ta now L s)).1 /\ k = 13 /\ h = cohG K m nt nw (K.no t) hs (ZFh K t L (coGs K nw t ta now L s)).2.1 (ZFh K t L (coGs K nw t ta now L s)).2.2 := by
 have hc := H.c
 have hb := H.b
 have hst := ZHZ L.g 8 nt nw ta (K.no t : Int) now hs s hta hnt (by omega) hnw HG.ok
 rw [HG.T] at hst
 unfold ZFh
 change ZDN _ _ _ _ _ _ (fun x h k => x = didO (coGs K nw t ta now L s).1 /\ k = 2 /\ h = [(0, some (.ob [1] ((coGs K nw t ta now L s).2.1.R 8))), (1, some (ZBC nt nw hs (coGs K nw t ta now L s).2.2))]) at hst
 generalize coGs K nw t ta now L s = r at hst ⊢
 have hcl := ZGX K m nt nw t ta now hs ⟨L.ss, L.td, L.pa, r.2.1, L.lo⟩ r.2.2 ht hm hta hnt hnw H
 by_cases e1 : r.1.e = 3
 ·simp only [e1, decide_true, pick]
  generalize ZHb K t ⟨L.ss, L.td, L.pa, r.2.1, L.lo⟩ = L2 at hcl ⊢
  generalize hcc : K.no t = c at *
  have hci : (c : Int) < 8 := by omega
  rcases (show c = 0 \/ c = 1 \/ c = 2 \/ c = 3 \/ c = 4 \/ c = 5 \/ c = 6 \/ c = 7 by omega) with rfl | rfl | rfl | rfl | rfl | rfl | rfl | rfl
  all_goals
   refine sE Tryz.func279 ic279_eq [.ca 8 4] fun G hP hA => ?_
   unfold evF ic279
   conv => whnf
   (repeat (first | (rw [hcc]) | (((refine ZD0 hP hcl [0, 1, 2, 3, 4, 5, 6, 7, 8, 9, 10, 11, 12] rfl rfl rfl (by exact ZAB) rfl rfl ?_); conv => whnf)) | ((first | refine aI ?_ | refine a64 ?_ | refine a32 ?_ | refine dY ?_ | refine dN ?_ | refine ZAH ?_ | refine dI hP ?_); conv => whnf) | (refine And.intro (by (conv => whnf); first | exact ⟨rfl, rfl, rfl⟩ | (refine And.intro (by (first | omega | assumption | (simp only [ZAO]; omega) | (simp [ZAO]; omega))) ?_; (conv => whnf); first | exact ⟨rfl, rfl, rfl⟩ | (refine ⟨?_, ?_, ?_⟩ <;> first | rfl | (rw [ZAb]; first | done | rfl) | (rw [hcc]; first | done | rfl))) | (refine ⟨?_, ?_, ?_⟩ <;> first | rfl | (rw [ZAb]; first | done | rfl) | (rw [hcc]; first | done | rfl))) ?_; conv => whnf) | rw [natI] | rw [ZAb] | ((first | refine ZMG hP hst ?_ | refine ZKJ hP hst ?_); (conv => whnf); refine zA ?_; conv => whnf) | (refine arW ?_; conv => whnf)))
   exact fA
 ·simp only [e1, decide_false, pick]
  generalize hcc : K.no t = c at *
  have hci : (c : Int) < 8 := by omega
  rcases (show c = 0 \/ c = 1 \/ c = 2 \/ c = 3 \/ c = 4 \/ c = 5 \/ c = 6 \/ c = 7 by omega) with rfl | rfl | rfl | rfl | rfl | rfl | rfl | rfl
  all_goals
   refine sE Tryz.func279 ic279_eq [.ca 8 4] fun G hP hA => ?_
   unfold evF ic279
   conv => whnf
   refine gr1 hcc hst ?_
   exact fA
theorem ZIH (K : CK) (m nt nw t ta : Nat) (now : Int) (hs : Nat -> Int) (L : CO) (s : PS) (ht : t < m) (hm : m <= 64) (hta : ta < nt) (hnt : nt <= 64) (hnw : nw <= 4096) (H : CoL K t L.lo) :
  ZAE Tryz.prog 273 (cohG K m nt nw (K.no t) hs L s) 13 [.l (.p 0 0 0 0), .l (.p 4 4 t 0), .l (.v (.int .i64 3))] fun x h k =>
   x = .t [] /\ k = 13 /\ h = cohG K m nt nw (K.no t) hs ⟨L.ss, updN L.td t 274, L.pa, L.g, L.lo⟩ s := by
 have hc := H.c
 have hb := H.b
 generalize hcc : K.no t = c at *
 have hci : (c : Int) < 8 := by omega
 rcases (show c = 0 \/ c = 1 \/ c = 2 \/ c = 3 \/ c = 4 \/ c = 5 \/ c = 6 \/ c = 7 by omega) with rfl | rfl | rfl | rfl | rfl | rfl | rfl | rfl
 all_goals
  refine sE Tryz.func273 ic273_eq [] fun G hP hA => ?_
  unfold evF ic273
  conv => whnf
  refine gr0 hcc ?_
  refine fQ ?_ ?_
  ·rfl
  ·exact ⟨ZAB, rfl, ZAB, ZAB, ⟨rfl, rfl, fun j hj => by simp only [Nat.zero_add, ZAm, ZA1, ZA2, ZAn, ZAo, ZAp, ZA3, ZAd, ZAq, ZBR, ZBS, ZFA, ZFB, ZAs]⟩, ZAB, ZAB, ZAB, ZAB, ZAB, ZAB, ZAB, ZAB, trivial⟩
theorem ZII (K : CK) (m nt nw t ta : Nat) (now : Int) (hs : Nat -> Int) (L : CO) (s : PS) (ht : t < m) (hm : m <= 64) (hta : ta < nt) (hnt : nt <= 64) (hnw : nw <= 4096) (H : CoL K t L.lo) :
  ZAE Tryz.prog 273 (cohG K m nt nw (K.no t) hs L s) 13 [.l (.p 0 0 0 0), .l (.p 4 4 t 0), .l (.v (.int .i64 1))] fun x h k =>
   x = .t [] /\ k = 13 /\ h = cohG K m nt nw (K.no t) hs ⟨L.ss, updN L.td t 275, L.pa, L.g, updK L.lo (K.no t) (k1Lk (K.cn (K.no t)) (L.lo (K.no t)) (K.inn t))⟩ s := by
 have hc := H.c
 have hb := H.b
 have hlk := ZOB (L.lo (K.no t)) (K.cn (K.no t)) (K.inn t) (-1) H.cn
 rw [H.T] at hlk
 generalize hcc : K.no t = c at *
 have hci : (c : Int) < 8 := by omega
 rcases (show c = 0 \/ c = 1 \/ c = 2 \/ c = 3 \/ c = 4 \/ c = 5 \/ c = 6 \/ c = 7 by omega) with rfl | rfl | rfl | rfl | rfl | rfl | rfl | rfl
 all_goals
  refine sE Tryz.func273 ic273_eq [] fun G hP hA => ?_
  unfold evF ic273
  conv => whnf
  refine gr1 hcc hlk ?_
  refine fQ ?_ ?_
  ·rfl
  ·exact ⟨ZAB, rfl, ZAB, ZAB, ⟨rfl, rfl, fun j hj => by simp only [Nat.zero_add, ZAm, ZA1, ZA2, ZAn, ZAo, ZAp, ZA3, ZAd, ZAq, ZBR, ZBS, ZFA, ZFB, ZAs]⟩, ZAB, ZAB, ZAB, ZAB, ZAB, ZAB, ZAB, ZAB, trivial⟩
theorem ZAW.has {h h' : Heap} {n : Nat} (hall : ZBB id h h') : ZAW h n h' n := by
 have get : ∀ k e, hget h' k = some e -> ∃ e', hget h k = some e' /\ ZCe id e' e := fun k e hk => hall.get (ZAa hk)
 refine ⟨Nat.le_refl _, fun ρ φ w hm => ⟨ρ, φ, fun _ _ => rfl, ⟨fun k e hk => ?_, fun k e hk => ?_, fun k k' e e' hk hk' hne ho b hb hb' => ?_, fun k e hk b hb => ?_⟩, fun k e hk ho b hb => ?_, fun k e hk b hb => ?_⟩⟩
 ·obtain ⟨e', h1, h2⟩ := get k e hk
  exact ZCe.at_ (ι := id) h2 (fun _ h => h) (hm.at_ k e' h1)
 ·obtain ⟨e', h1, h2⟩ := get k e hk
  exact hm.lt k e' h1
 ·obtain ⟨e1, h1, h2⟩ := get k e hk
  obtain ⟨e2, h3, h4⟩ := get k' e' hk'
  exact hm.dj k k' e1 e2 h1 h3 hne (h2.own ho) b hb hb'
 ·obtain ⟨e', h1, h2⟩ := get k e hk
  exact hm.sz k e' h1 b hb
 ·obtain ⟨e', h1, h2⟩ := get k e hk
  exact ⟨k, e', h1, h2.own ho, hb⟩
 ·obtain ⟨e', h1, h2⟩ := get k e hk
  exact ⟨k, e', h1, hb⟩
theorem ZQl (K : CK) (m nt nw c : Nat) (hs : Nat -> Int) (L : CO) (s : PS) (hc : c < 8) (hb : K.b c = true) : ZAW (cohG K m nt nw 8 hs L s) 13 (cohG K m nt nw c hs L s) 13 := by
 rcases (show c = 0 \/ c = 1 \/ c = 2 \/ c = 3 \/ c = 4 \/ c = 5 \/ c = 6 \/ c = 7 by omega) with rfl | rfl | rfl | rfl | rfl | rfl | rfl | rfl
 ·exact (ZAW.cell 0 5 (.i K.lT 5) (x := .io (K.b 0) K.lT 5) rfl rfl (fun ρ => by simp [LV.at, ioC, hb]) (fun ρ h => h)).trans (ZAW.has ⟨ZAB, rfl, ZAB, ZAB, ZAB, ⟨rfl, .inr ⟨fun ls => K1.stable _ _ ls, fun ls l F w h => h.1 hb⟩⟩, ZAB, ZAB, ZAB, ZAB, ZAB, ZAB, ZAB, trivial⟩)
 ·exact (ZAW.cell 0 6 (.i K.lT 6) (x := .io (K.b 1) K.lT 6) rfl rfl (fun ρ => by simp [LV.at, ioC, hb]) (fun ρ h => h)).trans (ZAW.has ⟨ZAB, rfl, ZAB, ZAB, ZAB, ZAB, ⟨rfl, .inr ⟨fun ls => K1.stable _ _ ls, fun ls l F w h => h.1 hb⟩⟩, ZAB, ZAB, ZAB, ZAB, ZAB, ZAB, trivial⟩)
 ·exact (ZAW.cell 0 7 (.i K.lT 7) (x := .io (K.b 2) K.lT 7) rfl rfl (fun ρ => by simp [LV.at, ioC, hb]) (fun ρ h => h)).trans (ZAW.has ⟨ZAB, rfl, ZAB, ZAB, ZAB, ZAB, ZAB, ⟨rfl, .inr ⟨fun ls => K1.stable _ _ ls, fun ls l F w h => h.1 hb⟩⟩, ZAB, ZAB, ZAB, ZAB, ZAB, trivial⟩)
 ·exact (ZAW.cell 0 8 (.i K.lT 8) (x := .io (K.b 3) K.lT 8) rfl rfl (fun ρ => by simp [LV.at, ioC, hb]) (fun ρ h => h)).trans (ZAW.has ⟨ZAB, rfl, ZAB, ZAB, ZAB, ZAB, ZAB, ZAB, ⟨rfl, .inr ⟨fun ls => K1.stable _ _ ls, fun ls l F w h => h.1 hb⟩⟩, ZAB, ZAB, ZAB, ZAB, trivial⟩)
 ·exact (ZAW.cell 0 9 (.i K.lT 9) (x := .io (K.b 4) K.lT 9) rfl rfl (fun ρ => by simp [LV.at, ioC, hb]) (fun ρ h => h)).trans (ZAW.has ⟨ZAB, rfl, ZAB, ZAB, ZAB, ZAB, ZAB, ZAB, ZAB, ⟨rfl, .inr ⟨fun ls => K1.stable _ _ ls, fun ls l F w h => h.1 hb⟩⟩, ZAB, ZAB, ZAB, trivial⟩)
 ·exact (ZAW.cell 0 10 (.i K.lT 10) (x := .io (K.b 5) K.lT 10) rfl rfl (fun ρ => by simp [LV.at, ioC, hb]) (fun ρ h => h)).trans (ZAW.has ⟨ZAB, rfl, ZAB, ZAB, ZAB, ZAB, ZAB, ZAB, ZAB, ZAB, ⟨rfl, .inr ⟨fun ls => K1.stable _ _ ls, fun ls l F w h => h.1 hb⟩⟩, ZAB, ZAB, trivial⟩)
 ·exact (ZAW.cell 0 11 (.i K.lT 11) (x := .io (K.b 6) K.lT 11) rfl rfl (fun ρ => by simp [LV.at, ioC, hb]) (fun ρ h => h)).trans (ZAW.has ⟨ZAB, rfl, ZAB, ZAB, ZAB, ZAB, ZAB, ZAB, ZAB, ZAB, ZAB, ⟨rfl, .inr ⟨fun ls => K1.stable _ _ ls, fun ls l F w h => h.1 hb⟩⟩, ZAB, trivial⟩)
 ·exact (ZAW.cell 0 12 (.i K.lT 12) (x := .io (K.b 7) K.lT 12) rfl rfl (fun ρ => by simp [LV.at, ioC, hb]) (fun ρ h => h)).trans (ZAW.has ⟨ZAB, rfl, ZAB, ZAB, ZAB, ZAB, ZAB, ZAB, ZAB, ZAB, ZAB, ZAB, ⟨rfl, .inr ⟨fun ls => K1.stable _ _ ls, fun ls l F w h => h.1 hb⟩⟩, trivial⟩)
theorem ZPY (K : CK) (m nt nw c : Nat) (hs : Nat -> Int) (L : CO) (s : PS) (hc : c < 8) (hb : K.b c = true) : ZAW (cohG K m nt nw c hs L s) 13 (cohG K m nt nw 8 hs L s) 13 := by
 rcases (show c = 0 \/ c = 1 \/ c = 2 \/ c = 3 \/ c = 4 \/ c = 5 \/ c = 6 \/ c = 7 by omega) with rfl | rfl | rfl | rfl | rfl | rfl | rfl | rfl
 ·exact (ZAW.cell 0 5 (.io (K.b 0) K.lT 5) (x := .i K.lT 5) rfl rfl (fun ρ => by simp [LV.at, ioC, hb]) (fun ρ h => h)).trans (ZAW.has ⟨ZAB, rfl, ZAB, ZAB, ZAB, ⟨rfl, .inr ⟨fun ls => ZBj (fun ls => K1.stable _ _ ls) ls, fun ls l F w h => ZEE hb h⟩⟩, ZAB, ZAB, ZAB, ZAB, ZAB, ZAB, ZAB, trivial⟩)
 ·exact (ZAW.cell 0 6 (.io (K.b 1) K.lT 6) (x := .i K.lT 6) rfl rfl (fun ρ => by simp [LV.at, ioC, hb]) (fun ρ h => h)).trans (ZAW.has ⟨ZAB, rfl, ZAB, ZAB, ZAB, ZAB, ⟨rfl, .inr ⟨fun ls => ZBj (fun ls => K1.stable _ _ ls) ls, fun ls l F w h => ZEE hb h⟩⟩, ZAB, ZAB, ZAB, ZAB, ZAB, ZAB, trivial⟩)
 ·exact (ZAW.cell 0 7 (.io (K.b 2) K.lT 7) (x := .i K.lT 7) rfl rfl (fun ρ => by simp [LV.at, ioC, hb]) (fun ρ h => h)).trans (ZAW.has ⟨ZAB, rfl, ZAB, ZAB, ZAB, ZAB, ZAB, ⟨rfl, .inr ⟨fun ls => ZBj (fun ls => K1.stable _ _ ls) ls, fun ls l F w h => ZEE hb h⟩⟩, ZAB, ZAB, ZAB, ZAB, ZAB, trivial⟩)
 ·exact (ZAW.cell 0 8 (.io (K.b 3) K.lT 8) (x := .i K.lT 8) rfl rfl (fun ρ => by simp [LV.at, ioC, hb]) (fun ρ h => h)).trans (ZAW.has ⟨ZAB, rfl, ZAB, ZAB, ZAB, ZAB, ZAB, ZAB, ⟨rfl, .inr ⟨fun ls => ZBj (fun ls => K1.stable _ _ ls) ls, fun ls l F w h => ZEE hb h⟩⟩, ZAB, ZAB, ZAB, ZAB, trivial⟩)
 ·exact (ZAW.cell 0 9 (.io (K.b 4) K.lT 9) (x := .i K.lT 9) rfl rfl (fun ρ => by simp [LV.at, ioC, hb]) (fun ρ h => h)).trans (ZAW.has ⟨ZAB, rfl, ZAB, ZAB, ZAB, ZAB, ZAB, ZAB, ZAB, ⟨rfl, .inr ⟨fun ls => ZBj (fun ls => K1.stable _ _ ls) ls, fun ls l F w h => ZEE hb h⟩⟩, ZAB, ZAB, ZAB, trivial⟩)
 ·exact (ZAW.cell 0 10 (.io (K.b 5) K.lT 10) (x := .i K.lT 10) rfl rfl (fun ρ => by simp [LV.at, ioC, hb]) (fun ρ h => h)).trans (ZAW.has ⟨ZAB, rfl, ZAB, ZAB, ZAB, ZAB, ZAB, ZAB, ZAB, ZAB, ⟨rfl, .inr ⟨fun ls => ZBj (fun ls => K1.stable _ _ ls) ls, fun ls l F w h => ZEE hb h⟩⟩, ZAB, ZAB, trivial⟩)
 ·exact (ZAW.cell 0 11 (.io (K.b 6) K.lT 11) (x := .i K.lT 11) rfl rfl (fun ρ => by simp [LV.at, ioC, hb]) (fun ρ h => h)).trans (ZAW.has ⟨ZAB, rfl, ZAB, ZAB, ZAB, ZAB, ZAB, ZAB, ZAB, ZAB, ZAB, ⟨rfl, .inr ⟨fun ls => ZBj (fun ls => K1.stable _ _ ls) ls, fun ls l F w h => ZEE hb h⟩⟩, ZAB, trivial⟩)
 ·exact (ZAW.cell 0 12 (.io (K.b 7) K.lT 12) (x := .i K.lT 12) rfl rfl (fun ρ => by simp [LV.at, ioC, hb]) (fun ρ h => h)).trans (ZAW.has ⟨ZAB, rfl, ZAB, ZAB, ZAB, ZAB, ZAB, ZAB, ZAB, ZAB, ZAB, ZAB, ⟨rfl, .inr ⟨fun ls => ZBj (fun ls => K1.stable _ _ ls) ls, fun ls l F w h => ZEE hb h⟩⟩, trivial⟩)
theorem ZBL {K : CK} {m nt nw c : Nat} {hs : Nat -> Int} {L L2 : CO} {s s2 : PS} {f : FuncId} {args : List AV} {X : SV} (hc : c < 8) (hb : K.b c = true)
  (h : ZAE Tryz.prog f (cohG K m nt nw c hs L s) 13 args fun x h k => x = X /\ k = 13 /\ h = cohG K m nt nw c hs L2 s2) : ZAE Tryz.prog f (cohG K m nt nw 8 hs L s) 13 args fun x h k => x = X /\ k = 13 /\ h = cohG K m nt nw 8 hs L2 s2 := by
 refine ZAE.refin (ZAE.ghost (ZQl K m nt nw c hs L s hc hb) h) ?_
 rintro x h k ⟨rfl, rfl, rfl⟩ _
 refine ZBH (ZPY K m nt nw c hs L2 s2 hc hb) (Nat.le_refl _) ?_
 exact ⟨fun ρ φ w hm hok => ⟨_, _, _, ρ, φ, rfl, ⟨rfl, rfl, rfl⟩, Nat.le_refl _, fun k hk => ⟨hk, rfl⟩, hm, hok, fun k e hk ho b hb => ⟨k, e, hk, ho, hb⟩⟩⟩
def ZIJ (t : Nat) (r : Dd × CO × PS) : Dd × CO × PS := (r.1, ⟨enSS r.2.1.ss t r.1.e, pick (enB r.2.1.ss.st t r.1.e) (updN r.2.1.td t 0) r.2.1.td, r.2.1.pa, r.2.1.g, r.2.1.lo⟩, r.2.2)
def ZDV (K : CK) (m nw : Nat) (t : Int) (ta : Nat) (now : Int) (L : CO) (s : PS) : Dd × CO × PS :=
 match inW m t with
 | false => (evD 0, L, s)
 | true => pick (decide (L.ss.st t.toNat = 1) || decide (L.ss.st t.toNat = 3)) (ZIJ t.toNat (ZKl K nw t.toNat ta now (pick (decide (L.td t.toNat = 0)) (ZGT K t.toNat L) L) s)) (evD 0, L, s)
def tdOk (f : Nat) : Prop := f = 275 \/ f = 278 \/ f = 281 \/ f = 283 \/ f = 274 \/ f = 277 \/ f = 280 \/ f = 276 \/ f = 279 \/ f = 284
structure CoOk (K : CK) (m : Nat) (L : CO) : Prop where
 l : ∀ t, t < m -> CoL K t L.lo
 g : CoG K L.g
 M : K.M <= 4096
 td : ∀ t, t < m -> L.td t = 0 \/ tdOk (L.td t)
theorem ZFi (K : CK) (m nt nw t ta : Nat) (now : Int) (hs : Nat -> Int) (L : CO) (s : PS) (ht : t < m) (hm : m <= 64) (hta : ta < nt) (hnt : nt <= 64) (hnw : nw <= 4096) (H : CoL K t L.lo) (HG : CoG K L.g) (hM : K.M <= 4096) (f : Nat) (hf : L.td t = f) (hv : tdOk f) :
  ZAE Tryz.prog f (cohG K m nt nw 8 hs L s) 13 [.l (.p 0 0 0 0), .l (.p 4 4 t 0), .l (.v (.int .i64 ta)), .l (.v (.int .i64 now))] fun x h k => x = didO (ZKl K nw t ta now L s).1 /\ k = 13 /\ h = cohG K m nt nw 8 hs (ZKl K nw t ta now L s).2.1 (ZKl K nw t ta now L s).2.2 := by
 unfold ZKl
 rcases hv with rfl | rfl | rfl | rfl | rfl | rfl | rfl | rfl | rfl | rfl
 ·simp only [hf, decide_true, decide_false, pick]
  exact ZBL H.c H.b (ZJY K m nt nw t ta now hs L s ht hm hta hnt hnw H HG hM)
 ·simp only [hf, show ¬ 278 = 275 by decide, decide_true, decide_false, pick]
  exact ZBL H.c H.b (ZKm K m nt nw t ta now hs L s ht hm hta hnt hnw H HG hM)
 ·simp only [hf, show ¬ 281 = 275 by decide, show ¬ 281 = 278 by decide, decide_true, decide_false, pick]
  exact ZBL H.c H.b (ZKn K m nt nw t ta now hs L s ht hm hta hnt hnw H HG hM)
 ·simp only [hf, show ¬ 283 = 275 by decide, show ¬ 283 = 278 by decide, show ¬ 283 = 281 by decide, decide_true, decide_false, pick]
  exact ZBL H.c H.b (ZJZ K m nt nw t ta now hs L s ht hm hta hnt hnw H HG hM)
 ·simp only [hf, show ¬ 274 = 275 by decide, show ¬ 274 = 278 by decide, show ¬ 274 = 281 by decide, show ¬ 274 = 283 by decide, decide_true, decide_false, pick]
  exact ZBL H.c H.b (ZJa K m nt nw t ta now hs L s ht hm hta hnt hnw H HG hM)
 ·simp only [hf, show ¬ 277 = 275 by decide, show ¬ 277 = 278 by decide, show ¬ 277 = 281 by decide, show ¬ 277 = 283 by decide, show ¬ 277 = 274 by decide, decide_true, decide_false, pick]
  exact ZBL H.c H.b (ZJb K m nt nw t ta now hs L s ht hm hta hnt hnw H HG hM)
 ·simp only [hf, show ¬ 280 = 275 by decide, show ¬ 280 = 278 by decide, show ¬ 280 = 281 by decide, show ¬ 280 = 283 by decide, show ¬ 280 = 274 by decide, show ¬ 280 = 277 by decide, decide_true, decide_false, pick]
  exact ZBL H.c H.b (ZKo K m nt nw t ta now hs L s ht hm hta hnt hnw H HG hM)
 ·simp only [hf, show ¬ 276 = 275 by decide, show ¬ 276 = 278 by decide, show ¬ 276 = 281 by decide, show ¬ 276 = 283 by decide, show ¬ 276 = 274 by decide, show ¬ 276 = 277 by decide, show ¬ 276 = 280 by decide, decide_true, decide_false, pick]
  exact ZBL H.c H.b (ZIG K m nt nw t ta now hs L s ht hm hta hnt hnw H HG hM)
 ·simp only [hf, show ¬ 279 = 275 by decide, show ¬ 279 = 278 by decide, show ¬ 279 = 281 by decide, show ¬ 279 = 283 by decide, show ¬ 279 = 274 by decide, show ¬ 279 = 277 by decide, show ¬ 279 = 280 by decide, show ¬ 279 = 276 by decide, decide_true, decide_false, pick]
  exact ZBL H.c H.b (ZJc K m nt nw t ta now hs L s ht hm hta hnt hnw H HG hM)
 ·simp only [hf, show ¬ 284 = 275 by decide, show ¬ 284 = 278 by decide, show ¬ 284 = 281 by decide, show ¬ 284 = 283 by decide, show ¬ 284 = 274 by decide, show ¬ 284 = 277 by decide, show ¬ 284 = 280 by decide, show ¬ 284 = 276 by decide, show ¬ 284 = 279 by decide, decide_true, decide_false, pick]
  exact ZBL H.c H.b (ZMj K m nt nw t ta now hs L s ht hm hta hnt hnw H HG hM)
theorem ZOF (K : CK) (m nt nw t ta : Nat) (now : Int) (hs : Nat -> Int) (L : CO) (s : PS) (ht : t < m) (hm : m <= 64) (v : Int) (hv : L.ss.st t = v) (hv2 : v = 1 \/ v = 3) (f : Nat) (hf : L.td t = f + 1) (r : Dd × CO × PS)
  (hrun : ZAE Tryz.prog (f + 1) (cohG K m nt nw 8 hs L s) 13 [.l (.p 0 0 0 0), .l (.p 4 4 t 0), .l (.v (.int .i64 ta)), .l (.v (.int .i64 now))] fun x h k => x = didO r.1 /\ k = 13 /\ h = cohG K m nt nw 8 hs r.2.1 r.2.2) :
  ZAE Tryz.prog 271 (cohG K m nt nw 8 hs L s) 13 [.l (.p 0 0 0 0), .l (.v (.int .i64 t)), .l (.v (.int .i64 ta)), .l (.v (.int .i64 now))] fun x h k =>
   x = didO (ZIJ t r).1 /\ k = 13 /\ h = cohG K m nt nw 8 hs (ZIJ t r).2.1 (ZIJ t r).2.2 := by
 have hst := ZAy m L.ss.st L.ss.dl false false t ht hm
 rw [hv] at hst
 have hen := ZAQ m r.2.1.ss.st r.2.1.ss.dl false false t r.1.e ht hm
 refine sE Tryz.func271 ic271_eq [.ca 8 4] fun G hP hA => ?_
 unfold evF ic271 ZIJ
 cases eb : enB r.2.1.ss.st t r.1.e with
 | true =>
  rw [eb] at hen
  simp only [pick]
  rcases hv2 with rfl | rfl
  all_goals
   conv => whnf
   (repeat (first | (rw [hf]) | (((refine ZD0 hP hrun [0, 1, 2, 3, 4, 5, 6, 7, 8, 9, 10, 11, 12] rfl rfl rfl (by exact ZAB) rfl rfl ?_); conv => whnf)) | ((first | refine aI ?_ | refine a64 ?_ | refine a32 ?_ | refine dY ?_ | refine dN ?_ | refine ZAH ?_ | refine dI hP ?_); conv => whnf) | (refine And.intro (by (conv => whnf); first | exact ⟨rfl, rfl, rfl⟩ | (refine And.intro (by (first | omega | assumption | (simp only [ZAO]; omega) | (simp [ZAO]; omega))) ?_; (conv => whnf); first | exact ⟨rfl, rfl, rfl⟩ | (refine ⟨?_, ?_, ?_⟩ <;> first | rfl | (rw [ZAb]; first | done | rfl) | (rw [hf]; first | done | rfl))) | (refine ⟨?_, ?_, ?_⟩ <;> first | rfl | (rw [ZAb]; first | done | rfl) | (rw [hf]; first | done | rfl))) ?_; conv => whnf) | rw [natI] | rw [ZAb] | ((first | refine ZBx hP hst ?_ | refine ZBO hP hst ?_ | refine ZBx hP hen ?_ | refine ZBO hP hen ?_); (conv => whnf); refine zA ?_; conv => whnf) | (refine arW ?_; conv => whnf)))
   refine fQ ?_ ?_
   ·rfl
   ·exact ⟨ZAB, rfl, ZAB, ZAB, ⟨rfl, rfl, fun j hj => by simp only [Nat.zero_add, ZAm, ZA1, ZA2, ZAn, ZAo, ZAp, ZA3, ZAd, ZAq, ZBR, ZBS, ZFA, ZFB, ZAs]⟩, ZAB, ZAB, ZAB, ZAB, ZAB, ZAB, ZAB, ZAB, trivial⟩
 | false =>
  rw [eb] at hen
  simp only [pick]
  rcases hv2 with rfl | rfl
  all_goals
   conv => whnf
   (repeat (first | (rw [hf]) | (((refine ZD0 hP hrun [0, 1, 2, 3, 4, 5, 6, 7, 8, 9, 10, 11, 12] rfl rfl rfl (by exact ZAB) rfl rfl ?_); conv => whnf)) | ((first | refine aI ?_ | refine a64 ?_ | refine a32 ?_ | refine dY ?_ | refine dN ?_ | refine ZAH ?_ | refine dI hP ?_); conv => whnf) | (refine And.intro (by (conv => whnf); first | exact ⟨rfl, rfl, rfl⟩ | (refine And.intro (by (first | omega | assumption | (simp only [ZAO]; omega) | (simp [ZAO]; omega))) ?_; (conv => whnf); first | exact ⟨rfl, rfl, rfl⟩ | (refine ⟨?_, ?_, ?_⟩ <;> first | rfl | (rw [ZAb]; first | done | rfl) | (rw [hf]; first | done | rfl))) | (refine ⟨?_, ?_, ?_⟩ <;> first | rfl | (rw [ZAb]; first | done | rfl) | (rw [hf]; first | done | rfl))) ?_; conv => whnf) | rw [natI] | rw [ZAb] | ((first | refine ZBx hP hst ?_ | refine ZBO hP hst ?_ | refine ZBx hP hen ?_ | refine ZBO hP hen ?_); (conv => whnf); refine zA ?_; conv => whnf) | (refine arW ?_; conv => whnf)))
   exact fA
theorem ZFy (K : CK) (m nt nw t ta : Nat) (now : Int) (hs : Nat -> Int) (L L1 : CO) (s : PS) (ht : t < m) (hm : m <= 64) (v : Int) (hv : L.ss.st t = v) (hv2 : v = 1 \/ v = 3) (h0 : L.td t = 0) (f : Nat) (hf : L1.td t = f + 1) (r : Dd × CO × PS)
  (hbg : ZAE Tryz.prog 273 (cohG K m nt nw 8 hs L s) 13 [.l (.p 0 0 0 0), .l (.p 4 4 t 0), .l (.v (.int .i64 v))] fun x h k => x = .t [] /\ k = 13 /\ h = cohG K m nt nw 8 hs L1 s)
  (hrun : ZAE Tryz.prog (f + 1) (cohG K m nt nw 8 hs L1 s) 13 [.l (.p 0 0 0 0), .l (.p 4 4 t 0), .l (.v (.int .i64 ta)), .l (.v (.int .i64 now))] fun x h k => x = didO r.1 /\ k = 13 /\ h = cohG K m nt nw 8 hs r.2.1 r.2.2) :
  ZAE Tryz.prog 271 (cohG K m nt nw 8 hs L s) 13 [.l (.p 0 0 0 0), .l (.v (.int .i64 t)), .l (.v (.int .i64 ta)), .l (.v (.int .i64 now))] fun x h k =>
   x = didO (ZIJ t r).1 /\ k = 13 /\ h = cohG K m nt nw 8 hs (ZIJ t r).2.1 (ZIJ t r).2.2 := by
 have hst := ZAy m L.ss.st L.ss.dl false false t ht hm
 rw [hv] at hst
 have hen := ZAQ m r.2.1.ss.st r.2.1.ss.dl false false t r.1.e ht hm
 refine sE Tryz.func271 ic271_eq [.ca 8 4] fun G hP hA => ?_
 unfold evF ic271 ZIJ
 cases eb : enB r.2.1.ss.st t r.1.e with
 | true =>
  rw [eb] at hen
  simp only [pick]
  rcases hv2 with rfl | rfl
  all_goals
   conv => whnf
   (repeat (first | (rw [h0]) | (rw [hf]) | (((refine ZD0 hP hbg [0, 1, 2, 3, 4, 5, 6, 7, 8, 9, 10, 11, 12] rfl rfl rfl (by exact ZAB) rfl rfl ?_); conv => whnf)) | (((refine ZD0 hP hrun [0, 1, 2, 3, 4, 5, 6, 7, 8, 9, 10, 11, 12] rfl rfl rfl (by exact ZAB) rfl rfl ?_); conv => whnf)) | ((first | refine aI ?_ | refine a64 ?_ | refine a32 ?_ | refine dY ?_ | refine dN ?_ | refine ZAH ?_ | refine dI hP ?_); conv => whnf) | (refine And.intro (by (conv => whnf); first | exact ⟨rfl, rfl, rfl⟩ | (refine And.intro (by (first | omega | assumption | (simp only [ZAO]; omega) | (simp [ZAO]; omega))) ?_; (conv => whnf); first | exact ⟨rfl, rfl, rfl⟩ | (refine ⟨?_, ?_, ?_⟩ <;> first | rfl | (rw [ZAb]; first | done | rfl) | (rw [h0]; first | done | rfl) | (rw [hf]; first | done | rfl))) | (refine ⟨?_, ?_, ?_⟩ <;> first | rfl | (rw [ZAb]; first | done | rfl) | (rw [h0]; first | done | rfl) | (rw [hf]; first | done | rfl))) ?_; conv => whnf) | rw [natI] | rw [ZAb] | ((first | refine ZBx hP hst ?_ | refine ZBO hP hst ?_ | refine ZBx hP hen ?_ | refine ZBO hP hen ?_); (conv => whnf); refine zA ?_; conv => whnf) | (refine arW ?_; conv => whnf)))
   refine fQ ?_ ?_
   ·rfl
   ·exact ⟨ZAB, rfl, ZAB, ZAB, ⟨rfl, rfl, fun j hj => by simp only [Nat.zero_add, ZAm, ZA1, ZA2, ZAn, ZAo, ZAp, ZA3, ZAd, ZAq, ZBR, ZBS, ZFA, ZFB, ZAs]⟩, ZAB, ZAB, ZAB, ZAB, ZAB, ZAB, ZAB, ZAB, trivial⟩
 | false =>
  rw [eb] at hen
  simp only [pick]
  rcases hv2 with rfl | rfl
  all_goals
   conv => whnf
   (repeat (first | (rw [h0]) | (rw [hf]) | (((refine ZD0 hP hbg [0, 1, 2, 3, 4, 5, 6, 7, 8, 9, 10, 11, 12] rfl rfl rfl (by exact ZAB) rfl rfl ?_); conv => whnf)) | (((refine ZD0 hP hrun [0, 1, 2, 3, 4, 5, 6, 7, 8, 9, 10, 11, 12] rfl rfl rfl (by exact ZAB) rfl rfl ?_); conv => whnf)) | ((first | refine aI ?_ | refine a64 ?_ | refine a32 ?_ | refine dY ?_ | refine dN ?_ | refine ZAH ?_ | refine dI hP ?_); conv => whnf) | (refine And.intro (by (conv => whnf); first | exact ⟨rfl, rfl, rfl⟩ | (refine And.intro (by (first | omega | assumption | (simp only [ZAO]; omega) | (simp [ZAO]; omega))) ?_; (conv => whnf); first | exact ⟨rfl, rfl, rfl⟩ | (refine ⟨?_, ?_, ?_⟩ <;> first | rfl | (rw [ZAb]; first | done | rfl) | (rw [h0]; first | done | rfl) | (rw [hf]; first | done | rfl))) | (refine ⟨?_, ?_, ?_⟩ <;> first | rfl | (rw [ZAb]; first | done | rfl) | (rw [h0]; first | done | rfl) | (rw [hf]; first | done | rfl))) ?_; conv => whnf) | rw [natI] | rw [ZAb] | ((first | refine ZBx hP hst ?_ | refine ZBO hP hst ?_ | refine ZBx hP hen ?_ | refine ZBO hP hen ?_); (conv => whnf); refine zA ?_; conv => whnf) | (refine arW ?_; conv => whnf)))
   exact fA
theorem ZJd (K : CK) (m nt nw ta : Nat) (t now v : Int) (hs : Nat -> Int) (L : CO) (s : PS) (hv : stV m L.ss.st t = v) (h1 : ¬ v = 1) (h3 : ¬ v = 3) :
  ZAE Tryz.prog 271 (cohG K m nt nw 8 hs L s) 13 [.l (.p 0 0 0 0), .l (.v (.int .i64 t)), .l (.v (.int .i64 ta)), .l (.v (.int .i64 now))] fun x h k =>
   x = didO (evD 0) /\ k = 13 /\ h = cohG K m nt nw 8 hs L s := by
 have hst := ZAh m L.ss.st L.ss.dl false false t
 rw [hv] at hst
 refine sE Tryz.func271 ic271_eq [.ca 8 4] fun G hP hA => ?_
 unfold evF ic271
 conv => whnf
 refine g1 hst ?_
 exact fA
theorem CoOk.b {K : CK} {m : Nat} {L : CO} (h : CoOk K m L) {t : Nat} (ht : t < m) : K.no t < 8 /\ K.b (K.no t) = true := ⟨(h.l t ht).c, (h.l t ht).b⟩
theorem ZKp (K : CK) (m nt nw ta : Nat) (t now : Int) (hs : Nat -> Int) (L : CO) (s : PS) (hm : m <= 64) (hta : ta < nt) (hnt : nt <= 64) (hnw : nw <= 4096) (H : CoOk K m L)
  (hset : ∀ i, i < m -> (k1Lk (K.cn (K.no i)) (L.lo (K.no i)) (K.inn i)).ok (K.cn (K.no i))) (hsT : ∀ (c : Nat) (S : K1) (t : Int), (k1Lk c S t).T = S.T) :
  ZAE Tryz.prog 271 (cohG K m nt nw 8 hs L s) 13 [.l (.p 0 0 0 0), .l (.v (.int .i64 t)), .l (.v (.int .i64 ta)), .l (.v (.int .i64 now))] fun x h k =>
   x = didO (ZDV K m nw t ta now L s).1 /\ k = 13 /\ h = cohG K m nt nw 8 hs (ZDV K m nw t ta now L s).2.1 (ZDV K m nw t ta now L s).2.2 := by
 unfold ZDV
 rcases ZAY m t with ⟨hb, i, hi, rfl⟩ | ⟨hb, ho⟩
 ·simp only [hb, Int.toNat_natCast]
  have Hl := H.l i hi
  by_cases hv2 : L.ss.st i = 1 \/ L.ss.st i = 3
  ·have e : (decide (L.ss.st i = 1) || decide (L.ss.st i = 3)) = true := by simpa using hv2
   simp only [e, pick]
   rcases H.td i hi with h0 | htd
   ·have tdn : tdOk 275 /\ tdOk 274 := by simp [tdOk]
    rcases hv2 with h1 | h3
    ·have hbg := ZBL Hl.c Hl.b (ZII K m nt nw i ta now hs L s hi hm hta hnt hnw Hl)
     simp only [h0, decide_true, ZGT, h1, show ¬ (1 : Int) = 3 by omega, decide_false]
     generalize hL1 : CO.mk L.ss (updN L.td i 275) L.pa L.g (updK L.lo (K.no i) (k1Lk (K.cn (K.no i)) (L.lo (K.no i)) (K.inn i))) = L1 at hbg ⊢
     have hf : L1.td i = 275 := by rw [<- hL1]; simp [updN]
     have Hl1 : CoL K i L1.lo := by
      rw [<- hL1]
      refine ⟨Hl.c, Hl.b, Hl.cn, ?_, ?_⟩
      ·simp only [updK, if_true]; exact hset i hi
      ·simp only [updK, if_true]; rw [hsT]; exact Hl.T
     have Hg1 : CoG K L1.g := by rw [<- hL1]; exact H.g
     exact ZFy K m nt nw i ta now hs L L1 s hi hm 1 h1 (.inl rfl) h0 _ hf _ hbg (ZFi K m nt nw i ta now hs L1 s hi hm hta hnt hnw Hl1 Hg1 H.M _ hf tdn.1)
    ·have hbg := ZBL Hl.c Hl.b (ZIH K m nt nw i ta now hs L s hi hm hta hnt hnw Hl)
     simp only [h0, decide_true, ZGT, h3]
     generalize hL1 : CO.mk L.ss (updN L.td i 274) L.pa L.g L.lo = L1 at hbg ⊢
     have hf : L1.td i = 274 := by rw [<- hL1]; simp [updN]
     have Hl1 : CoL K i L1.lo := by rw [<- hL1]; exact Hl
     have Hg1 : CoG K L1.g := by rw [<- hL1]; exact H.g
     exact ZFy K m nt nw i ta now hs L L1 s hi hm 3 h3 (.inr rfl) h0 _ hf _ hbg (ZFi K m nt nw i ta now hs L1 s hi hm hta hnt hnw Hl1 Hg1 H.M _ hf tdn.2)
   ·have hn0 : ¬ L.td i = 0 := by
     intro h
     rw [h] at htd
     simp [tdOk] at htd
    obtain ⟨f, hf⟩ : ∃ f, L.td i = f + 1 := ⟨L.td i - 1, by omega⟩
    simp only [hn0, decide_false]
    exact ZOF K m nt nw i ta now hs L s hi hm _ rfl hv2 f hf _ (ZFi K m nt nw i ta now hs L s hi hm hta hnt hnw Hl H.g H.M _ hf (hf ▸ htd))
  ·have e : (decide (L.ss.st i = 1) || decide (L.ss.st i = 3)) = false := by simpa using hv2
   simp only [e, pick]
   refine ZJd K m nt nw ta i now _ hs L s rfl ?_ ?_
   ·simp only [stV, hb, pick, Int.toNat_natCast]; exact fun h => hv2 (.inl h)
   ·simp only [stV, hb, pick, Int.toNat_natCast]; exact fun h => hv2 (.inr h)
 ·simp only [hb]
  refine ZJd K m nt nw ta t now _ hs L s rfl ?_ ?_
  ·simp [stV, hb, pick]
  ·simp [stV, hb, pick]
theorem ZAT {α : Type} {P : α -> Prop} (b : Bool) (x y : α) (hx : P x) (hy : P y) : P (pick b x y) := by cases b <;> assumption
def abEx (n E : Nat) (L : AL) : Prop := 1 <= E /\ ∀ t, t < n -> (0 <= L.sp t /\ L.sp t <= 7) /\ (L.ss.st t = 0 -> L.tr t = 0)
def K1.ex (n : Nat) : K1 -> Prop
 | .ab E tail L => abEx n E L
 | _ => True
def K1.inv (n : Nat) (S : K1) : Prop := S.ok n /\ S.ex n
theorem K1.T_step (S : K1) (n nw ta : Nat) (t now : Int) (s : PS) : (S.step n nw t now ta s).2.1.T = S.T := by cases S <;> rfl
theorem K1.T_set (S : K1) (st dl : Nat -> Int) : (S.set st dl).T = S.T := by cases S <;> rfl
theorem K1.ss_set (S : K1) (st dl : Nat -> Int) : (S.set st dl).ss = ⟨st, dl⟩ := by cases S <;> rfl
theorem ZGY (n E : Nat) (L : AL) (i : Nat) (hE : 1 <= E) (r : Dd × AL × PS) (ho : ∀ t, t < n -> t ≠ i -> r.2.1.ss.st t = L.ss.st t /\ r.2.1.sp t = L.sp t /\ r.2.1.tr t = L.tr t) (hok : abOk n E L) (hx : abEx n E L)
  (hi : 0 <= r.2.1.sp i /\ r.2.1.sp i <= 7) (h1 : enB r.2.1.ss.st i r.1.e = false -> (r.2.1.ss.st i = 1 -> r.2.1.sp i = 0 -> 0 <= r.2.1.tr i /\ r.2.1.tr i < E) /\ (r.2.1.ss.st i = 0 -> r.2.1.tr i = 0)) :
  abOk n E (ZET i r).2.1 /\ abEx n E (ZET i r).2.1 := by
 unfold ZET
 cases eb : enB r.2.1.ss.st i r.1.e with
 | true =>
  simp only [pick]
  have hlt : ¬ ZCP (r.2.1.ss.st i) r.1.e < 0 := by simpa [enB] using eb
  have hst : ∀ t, t ≠ i -> enSt r.2.1.ss.st i r.1.e t = r.2.1.ss.st t := fun t h => by simp [enSt, hlt, pick, updF, h]
  refine ⟨fun t ht hs1 hs0 => ?_, hE, fun t ht => ?_⟩
  ·simp only [enSS] at hs1
   by_cases h : t = i
   ·subst h; simp only [updF, if_true]; omega
   ·simp only [updF, if_neg h] at hs0 ⊢
    rw [hst t h] at hs1
    obtain ⟨a, b, c⟩ := ho t ht h
    rw [a] at hs1; rw [b] at hs0; rw [c]
    exact hok t ht hs1 hs0
  ·by_cases h : t = i
   ·subst h; simp [updF]
   ·simp only [updF, if_neg h, enSS, hst t h]
    obtain ⟨a, b, c⟩ := ho t ht h
    rw [a, b, c]
    exact hx.2 t ht
 | false =>
  simp only [pick]
  have hlt : ZCP (r.2.1.ss.st i) r.1.e < 0 := by simpa [enB] using eb
  have hst : enSt r.2.1.ss.st i r.1.e = r.2.1.ss.st := by simp [enSt, hlt, pick]
  obtain ⟨k1, k2⟩ := h1 eb
  refine ⟨fun t ht hs1 hs0 => ?_, hE, fun t ht => ?_⟩
  ·simp only [enSS, hst] at hs1
   simp only at hs0 ⊢
   by_cases h : t = i
   ·subst h; exact k1 hs1 hs0
   ·obtain ⟨a, b, c⟩ := ho t ht h
    rw [a] at hs1; rw [b] at hs0; rw [c]
    exact hok t ht hs1 hs0
  ·simp only [enSS, hst]
   by_cases h : t = i
   ·subst h; exact ⟨hi, k2⟩
   ·obtain ⟨a, b, c⟩ := ho t ht h
    rw [a, b, c]
    exact hx.2 t ht
def AbGo (n E : Nat) (L : AL) (i : Nat) (r : Dd × AL × PS) : Prop :=
 (∀ t, t < n -> t ≠ i -> r.2.1.ss.st t = L.ss.st t /\ r.2.1.sp t = L.sp t /\ r.2.1.tr t = L.tr t) /\ (0 <= r.2.1.sp i /\ r.2.1.sp i <= 7) /\
  (enB r.2.1.ss.st i r.1.e = false -> (r.2.1.ss.st i = 1 -> r.2.1.sp i = 0 -> 0 <= r.2.1.tr i /\ r.2.1.tr i < E) /\ (r.2.1.ss.st i = 0 -> r.2.1.tr i = 0))
theorem ZPZ (n E nw : Nat) (tail : Int) (i ta : Nat) (late : Bool) (L : AL) (s : PS) (hi : i < n) (hok : abOk n E L) (hx : abEx n E L) (hs : L.ss.st i = 1) : AbGo n E L i (abLk E nw tail i ta late L s) := by
 obtain ⟨hsp, _⟩ := hx.2 i hi
 have key : ∀ (d : Dd) (k : Int) (s2 : PS), 1 <= k /\ k <= 7 -> AbGo n E L i (d, abNx L i k, s2) := fun d k s2 hk => by
  refine ⟨fun t ht h => ⟨rfl, by simp [abNx, updF, h], rfl⟩, by simp [abNx, updF]; omega, fun _ => ⟨fun _ h0 => ?_, fun h => ?_⟩⟩
  ·simp [abNx, updF] at h0; omega
  ·simp only [abNx] at h; omega
 have same : ∀ (d : Dd) (s2 : PS), L.sp i ≠ 0 -> AbGo n E L i (d, L, s2) := fun d s2 h => ⟨fun _ _ _ => ⟨rfl, rfl, rfl⟩, hsp, fun _ => ⟨fun _ h0 => absurd h0 h, fun h0 => by simp only at h0; omega⟩⟩
 unfold abLk
 by_cases e0 : L.sp i = 0
 ·have hr := hok i hi hs e0
  simp only [e0, decide_true, pick, abSr]
  refine ⟨fun t ht h => ⟨rfl, ?_, by simp [updF, h]⟩, ?_, fun hb => ⟨fun _ h0 => ?_, fun h => by simp only at h; omega⟩⟩
  ·by_cases ez : rdV nw (i64w (abA tail (abN E i (L.tr i)) + 2)) s = 0 <;> simp [ez, updF, h]
  ·by_cases ez : rdV nw (i64w (abA tail (abN E i (L.tr i)) + 2)) s = 0 <;> simp [ez, updF, e0]
  ·by_cases ez : rdV nw (i64w (abA tail (abN E i (L.tr i)) + 2)) s = 0
   ·simp [ez, updF] at h0
   ·by_cases el : L.tr i + 1 = (E : Int)
    ·simp [ez, el, evD, enB, ZCP, hs, pick] at hb
    ·simp only [updF, if_true]; omega
 by_cases e1 : L.sp i = 1
 ·simp only [Int.reduceEq, e1, decide_true, decide_false, pick]; exact key _ 2 _ (by omega)
 by_cases e2 : L.sp i = 2
 ·simp only [Int.reduceEq, e2, decide_true, decide_false, pick]; exact key _ 3 _ (by omega)
 by_cases e3 : L.sp i = 3
 ·simp only [Int.reduceEq, e3, decide_true, decide_false, pick]; exact key _ 4 _ (by omega)
 by_cases e4 : L.sp i = 4
 ·simp only [Int.reduceEq, e4, decide_true, decide_false, pick]
  refine ⟨fun t ht h => ⟨rfl, ?_, rfl⟩, ?_, fun hb => ⟨fun _ h0 => ?_, fun h => by simp only at h; omega⟩⟩
  ·by_cases ez : i64w (rdV nw tail s) = 0 <;> simp [ez, updF, h]
  ·by_cases ez : i64w (rdV nw tail s) = 0 <;> simp [ez, updF, e4]
  ·by_cases ez : i64w (rdV nw tail s) = 0 <;> simp [ez, updF, e4] at h0
 by_cases e5 : L.sp i = 5
 ·simp only [Int.reduceEq, e5, decide_true, decide_false, pick]; exact key _ 6 _ (by omega)
 by_cases e6 : L.sp i = 6
 ·simp only [Int.reduceEq, e6, decide_true, decide_false, pick]
  cases hb : (decide (rdV nw (abA tail (L.no i)) s = 0) && late) with
  | true => exact key _ 7 _ (by omega)
  | false => exact same _ _ e0
 by_cases e7 : L.sp i = 7
 ·simp only [Int.reduceEq, e7, decide_true, decide_false, pick]
  exact same _ _ e0
 ·exfalso; omega
def AbUl (n : Nat) (L : AL) (i : Nat) (r : Int × AL × PS) : Prop :=
 (∀ t, t < n -> t ≠ i -> r.2.1.ss.st t = L.ss.st t /\ r.2.1.sp t = L.sp t /\ r.2.1.tr t = L.tr t) /\ (0 <= r.2.1.sp i /\ r.2.1.sp i <= 7) /\ r.2.1.ss.st i = 3
theorem ZPa (n E nw : Nat) (tail : Int) (i ta : Nat) (L : AL) (s : PS) (hi : i < n) (hx : abEx n E L) (hs : L.ss.st i = 3) : AbUl n L i (abUl nw tail i ta L s) := by
 obtain ⟨hsp, _⟩ := hx.2 i hi
 have key : ∀ (d : Int) (k : Int) (s2 : PS), 0 <= k /\ k <= 7 -> AbUl n L i (d, abNx L i k, s2) := fun d k s2 hk =>
  ⟨fun t ht h => ⟨rfl, by simp [abNx, updF, h], rfl⟩, by simp [abNx, updF]; omega, hs⟩
 unfold abUl
 cases eb : (decide (L.sp i = 0) || decide (L.sp i = 2)) with
 | true =>
  simp only [pick]
  refine ⟨fun t ht h => ⟨rfl, ?_, rfl⟩, ?_, hs⟩
  ·by_cases ez : i64w (rdV nw (i64w (abA tail (L.no i) + 1)) s) = 0 <;> by_cases e0 : L.sp i = 0 <;> simp [ez, e0, updF, h]
  ·by_cases ez : i64w (rdV nw (i64w (abA tail (L.no i) + 1)) s) = 0 <;> by_cases e0 : L.sp i = 0 <;> simp [ez, e0, updF] <;> omega
 | false =>
  simp only [pick]
  by_cases e1 : L.sp i = 1
  ·simp only [e1, decide_true]
   refine key _ _ _ ?_
   cases casB nw tail (u32w (L.no i)) s <;> simp
  by_cases e3 : L.sp i = 3
  ·simp only [Int.reduceEq, e3, decide_true, decide_false]
   refine key _ _ _ ?_
   cases casB nw (abA tail (L.ot i)) 0 s <;> simp
  by_cases e4 : L.sp i = 4
  ·simp only [Int.reduceEq, e4, decide_true, decide_false]
   exact ⟨fun t ht h => ⟨rfl, by simp [updF, h], by simp [updF, h]⟩, by simp [updF], hs⟩
  by_cases e5 : L.sp i = 5
  ·simp only [Int.reduceEq, e5, decide_true, decide_false]
   exact ⟨fun _ _ _ => ⟨rfl, rfl, rfl⟩, hsp, hs⟩
  ·simp only [e1, e3, e4, e5, decide_false]
   exact ⟨fun _ _ _ => ⟨rfl, rfl, rfl⟩, hsp, hs⟩
theorem ZMk (n E nw : Nat) (tail t now : Int) (ta : Nat) (L : AL) (s : PS) (hok : abOk n E L) (hx : abEx n E L) : abOk n E (ZBD E n nw tail t now ta L s).2.1 /\ abEx n E (ZBD E n nw tail t now ta L s).2.1 := by
 unfold ZBD
 rcases ZAY n t with ⟨hb, i, hi, rfl⟩ | ⟨hb, ho⟩
 ·simp only [hb, Int.toNat_natCast]
  unfold ZAz
  by_cases e1 : L.ss.st i = 1
  ·simp only [e1, decide_true, pick]
   obtain ⟨h1, h2, h3⟩ := ZPZ n E nw tail i ta (ZHY L.ss.dl i now) L s hi hok hx e1
   exact ZGY n E L i hx.1 _ h1 hok hx h2 h3
  by_cases e3 : L.ss.st i = 3
  ·simp only [Int.reduceEq, e3, decide_true, decide_false, pick]
   obtain ⟨h1, h2, h3⟩ := ZPa n E nw tail i ta L s hi hx e3
   exact ZGY n E L i hx.1 _ h1 hok hx h2 fun _ => ⟨fun h => by simp only at h; rw [h3] at h; omega, fun h => by simp only at h; rw [h3] at h; omega⟩
  ·simp only [e1, e3, decide_false, pick]
   exact ZGY n E L i hx.1 _ (fun _ _ _ => ⟨rfl, rfl, rfl⟩) hok hx (hx.2 i hi).1 fun _ => ⟨fun h => absurd h e1, (hx.2 i hi).2⟩
 ·simp only [hb]
  exact ⟨hok, hx⟩
theorem K1.inv_step {S : K1} {n : Nat} (h : S.inv n) (nw ta : Nat) (t now : Int) (s : PS) : (S.step n nw t now ta s).2.1.inv n := by
 cases S with
 | ab E tail L =>
  obtain ⟨⟨h1, h2⟩, h3⟩ := h
  obtain ⟨k1, k2⟩ := ZMk n E nw tail t now ta L s h2 h3
  exact ⟨⟨h1, k1⟩, k2⟩
 | fl => exact h
 | sl => exact h
 | cl => exact h
 | mc => exact h
 | hi => exact h
theorem K1.inv_set {S : K1} {n : Nat} (h : S.inv n) (st dl : Nat -> Int) (hs : ∀ t, t < n -> st t = S.ss.st t \/ (S.ss.st t = 0 /\ st t = 1) \/ (st t ≠ 0 /\ st t ≠ 1)) : (S.set st dl).inv n := by
 cases S with
 | ab E tail L =>
  obtain ⟨⟨h1, h2⟩, h3, h4⟩ := h
  refine ⟨⟨h1, fun t ht a b => ?_⟩, h3, fun t ht => ⟨(h4 t ht).1, fun a => ?_⟩⟩
  ·simp only at a b ⊢
   rcases hs t ht with e | ⟨e, _⟩ | ⟨_, e⟩
   ·rw [e] at a; exact h2 t ht a b
   ·rw [(h4 t ht).2 e]; omega
   ·exact absurd a e
  ·simp only at a ⊢
   rcases hs t ht with e | ⟨_, e⟩ | ⟨e, _⟩
   ·rw [e] at a; exact (h4 t ht).2 a
   ·rw [e] at a; omega
   ·exact absurd a e
 | fl => exact h
 | sl => exact h
 | cl => exact h
 | mc => exact h
 | hi => exact h
theorem ZOG (n : Nat) (st : Nat -> Int) (tm : Bool) (t d : Int) : ∀ j, j < n -> lkSt n st tm t d j = st j \/ (st j = 0 /\ lkSt n st tm t d j = 1) \/ (lkSt n st tm t d j ≠ 0 /\ lkSt n st tm t d j ≠ 1) := fun j hj => by
 unfold lkSt
 by_cases h : lkE n st tm t d = 0
 ·simp only [h, decide_true, pick, updF]
  by_cases hj2 : j = t.toNat
  ·subst hj2; simp only [if_true]; exact .inr (.inl ⟨(ZSV h).2.2.2, trivial⟩)
  ·simp only [if_neg hj2]; exact .inl trivial
 ·simp only [h, decide_false, pick]; exact .inl trivial
theorem ZKq (n : Nat) (st : Nat -> Int) (t v : Int) (hv : v ≠ 0 /\ v ≠ 1) : ∀ j, j < n -> ulSt n st t v j = st j \/ (st j = 0 /\ ulSt n st t v j = 1) \/ (ulSt n st t v j ≠ 0 /\ ulSt n st t v j ≠ 1) := fun j hj => by
 unfold ulSt
 by_cases h : hoE n st t = 0
 ·simp only [h, decide_true, pick, updF]
  by_cases hj2 : j = t.toNat
  ·subst hj2; simp only [if_true]; exact .inr (.inr hv)
  ·simp only [if_neg hj2]; exact .inl trivial
 ·simp only [h, decide_false, pick]; exact .inl trivial
theorem ZQm (n : Nat) (st : Nat -> Int) (pr : Bool) (t : Int) : ∀ j, j < n -> prSt n st pr t j = st j \/ (st j = 0 /\ prSt n st pr t j = 1) \/ (prSt n st pr t j ≠ 0 /\ prSt n st pr t j ≠ 1) := fun j hj => by
 unfold prSt
 cases pr
 ·exact .inl rfl
 ·exact ZKq n st t 4 (by omega) j hj
theorem ZIK {S : K1} {n : Nat} (h : S.inv n) (t : Int) : (k1Lk n S t).inv n := K1.inv_set h _ _ (ZOG _ _ _ _ _)
theorem ZLq {S : K1} {n : Nat} (h : S.inv n) (t : Int) : (k1Ul n S t).inv n := K1.inv_set h _ _ (ZKq _ _ _ _ (by omega))
theorem ZPb {S : K1} {n : Nat} (h : S.inv n) (t : Int) : (k1Pr n S t).inv n := K1.inv_set h _ _ (ZQm _ _ _ _)
def CkOk (K : CK) (m : Nat) : Prop := K.M <= 4096 /\ ∀ t, t < m -> K.no t < 8 /\ K.b (K.no t) = true /\ K.cn (K.no t) <= 64
def GOk (K : CK) (g : K1) : Prop := g.inv 8 /\ g.T = K.gT
def LoOk (K : CK) (m : Nat) (lo : Nat -> K1) : Prop := ∀ t, t < m -> (lo (K.no t)).inv (K.cn (K.no t)) /\ (lo (K.no t)).T = K.lT
def TdOk (m : Nat) (td : Nat -> Nat) : Prop := ∀ t, t < m -> td t = 0 \/ tdOk (td t)
def ZC3 (K : CK) (m : Nat) (L : CO) : Prop := CkOk K m /\ GOk K L.g /\ LoOk K m L.lo /\ TdOk m L.td
theorem ZC3.ok {K : CK} {m : Nat} {L : CO} (h : ZC3 K m L) : CoOk K m L := by
 obtain ⟨h1, h2, h3, h4⟩ := h
 exact ⟨fun t ht => ⟨(h1.2 t ht).1, (h1.2 t ht).2.1, (h1.2 t ht).2.2, (h3 t ht).1.1, (h3 t ht).2⟩, ⟨h2.1.1, h2.2⟩, h1.1, h4⟩
theorem LoOk.upd {K : CK} {m : Nat} {lo : Nat -> K1} (h : LoOk K m lo) (c : Nat) (S : K1) (hS : S.inv (K.cn c)) (hT : S.T = K.lT) : LoOk K m (updK lo c S) := fun t ht => by
 by_cases e : K.no t = c
 ·simp only [updK, if_pos e, e]; exact ⟨hS, hT⟩
 ·simp only [updK, if_neg e]; exact h t ht
theorem TdOk.upd {m : Nat} {td : Nat -> Nat} (h : TdOk m td) (t f : Nat) (hf : f = 0 \/ tdOk f) : TdOk m (updN td t f) := fun j hj => by
 by_cases e : j = t
 ·simp only [updN, if_pos e]; exact hf
 ·simp only [updN, if_neg e]; exact h j hj
theorem ZOH (K : CK) (m nw t ta : Nat) (now : Int) (L : CO) (s : PS) (ht : t < m) (h : ZC3 K m L) : ZC3 K m (ZKl K nw t ta now L s).2.1 := by
 obtain ⟨h1, h2, h3, h4⟩ := h
 have hl := h3 t ht
 have hls : LoOk K m (updK L.lo (K.no t) (coLs K nw t ta now L s).2.1) := h3.upd _ _ (K1.inv_step hl.1 _ _ _ _ _) (by unfold coLs; rw [K1.T_step]; exact hl.2)
 have hgs : GOk K (coGs K nw t ta now L s).2.1 := ⟨K1.inv_step h2.1 _ _ _ _ _, by unfold coGs; rw [K1.T_step]; exact h2.2⟩
 have haw : LoOk K m (updK L.lo (K.no t) (k1Ul (K.cn (K.no t)) (L.lo (K.no t)) (K.inn t))) := h3.upd _ _ (ZLq hl.1 _) (by unfold k1Ul; rw [K1.T_set]; exact hl.2)
 unfold ZKl
 refine ZAT (P := fun r : Dd × CO × PS => ZC3 K m r.2.1) _ _ _ ?_ (ZAT (P := fun r : Dd × CO × PS => ZC3 K m r.2.1) _ _ _ ?_ (ZAT (P := fun r : Dd × CO × PS => ZC3 K m r.2.1) _ _ _ ?_ (ZAT (P := fun r : Dd × CO × PS => ZC3 K m r.2.1) _ _ _ ?_ (ZAT (P := fun r : Dd × CO × PS => ZC3 K m r.2.1) _ _ _ ?_ (ZAT (P := fun r : Dd × CO × PS => ZC3 K m r.2.1) _ _ _ ?_ (ZAT (P := fun r : Dd × CO × PS => ZC3 K m r.2.1) _ _ _ ?_ (ZAT (P := fun r : Dd × CO × PS => ZC3 K m r.2.1) _ _ _ ?_ (ZAT (P := fun r : Dd × CO × PS => ZC3 K m r.2.1) _ _ _ ?_ ?_))))))))
 ·exact ⟨h1, h2, hls, ZAT _ _ _ (h4.upd _ _ (.inr (by simp [tdOk]))) h4⟩
 ·unfold ZHa
  refine ZAT (P := fun r : Dd × CO × PS => ZC3 K m r.2.1) _ _ _ ⟨h1, ⟨ZIK h2.1 _, by unfold k1Lk; rw [K1.T_set]; exact h2.2⟩, h3, h4.upd _ _ (.inr (by simp [tdOk]))⟩ ⟨h1, h2, h3, h4⟩
 ·exact ⟨h1, hgs, h3, ZAT _ _ _ (h4.upd _ _ (.inr (by simp [tdOk]))) h4⟩
 ·exact ⟨h1, h2, h3, h4⟩
 ·unfold ZFg
  refine ZAT (P := fun r : CO => ZC3 K m r) _ _ _ ⟨h1, h2, h3.upd _ _ (ZPb hl.1 _) (by unfold k1Pr; rw [K1.T_set]; exact hl.2), h4.upd _ _ (.inr (by simp [tdOk]))⟩ ⟨h1, h2, h3, h4.upd _ _ (.inr (by simp [tdOk]))⟩
 ·exact ⟨h1, h2, hls, h4.upd _ _ (ZAT (P := fun f => f = 0 \/ tdOk f) _ _ _ (.inr (by simp [tdOk])) (.inr (by simp [tdOk])))⟩
 ·exact ⟨h1, h2, haw, h4.upd _ _ (.inr (by simp [tdOk]))⟩
 ·exact ⟨h1, ⟨ZLq h2.1 _, by show (k1Ul 8 L.g (K.no t : Int)).T = K.gT; unfold k1Ul; rw [K1.T_set]; exact h2.2⟩, h3, h4.upd _ _ (.inr (by simp [tdOk]))⟩
 ·unfold ZFh
  refine ZAT (P := fun r : CO => ZC3 K m r) _ _ _ ⟨h1, hgs, haw, h4.upd _ _ (.inr (by simp [tdOk]))⟩ ⟨h1, hgs, h3, h4⟩
 ·exact ⟨h1, h2, hls, h4⟩
theorem ZMl (K : CK) (m nw ta : Nat) (t now : Int) (L : CO) (s : PS) (h : ZC3 K m L) : ZC3 K m (ZDV K m nw t ta now L s).2.1 := by
 unfold ZDV
 rcases ZAY m t with ⟨hb, i, hi, rfl⟩ | ⟨hb, ho⟩
 ·simp only [hb, Int.toNat_natCast]
  have hl := h.2.2.1 i hi
  refine ZAT (P := fun r : Dd × CO × PS => ZC3 K m r.2.1) _ _ _ ?_ h
  have hbg : ZC3 K m (pick (decide (L.td i = 0)) (ZGT K i L) L) := by
   refine ZAT _ _ _ ?_ h
   unfold ZGT
   exact ZAT _ _ _ ⟨h.1, h.2.1, h.2.2.1, h.2.2.2.upd _ _ (.inr (by simp [tdOk]))⟩ ⟨h.1, h.2.1, h.2.2.1.upd _ _ (ZIK hl.1 _) (by unfold k1Lk; rw [K1.T_set]; exact hl.2), h.2.2.2.upd _ _ (.inr (by simp [tdOk]))⟩
  obtain ⟨a, b, c, d⟩ := ZOH K m nw i ta now _ s hi hbg
  exact ⟨a, b, c, ZAT _ _ _ (d.upd _ _ (.inl rfl)) d⟩
 ·simp only [hb]; exact h
inductive LK where
 | s (S : K1)
 | c (K : CK) (L : CO)
def LK.R (n : Nat) : LK -> List Go.Sx.Loc -> Go.Sx.Loc -> List Nat -> World -> Prop
 | .s S => S.R n
 | .c K L => ZAl (ZE9 K n 8 L) 13
def LK.T : LK -> Nat
 | .s S => S.T
 | .c .. => 239
def LK.ss : LK -> SS
 | .s S => S.ss
 | .c K L => L.ss
def LK.tm : LK -> Bool
 | .s S => S.tm
 | .c .. => false
def LK.pr : LK -> Bool
 | .s S => S.pr
 | .c .. => false
def LK.set (st dl : Nat -> Int) : LK -> LK
 | .s S => .s (S.set st dl)
 | .c K L => .c K ⟨⟨st, dl⟩, L.td, L.pa, L.g, L.lo⟩
def LK.inv (n : Nat) : LK -> Prop
 | .s S => S.inv n
 | .c K L => ZC3 K n L
def LK.step (n nw : Nat) (t now : Int) (ta : Nat) (s : PS) : LK -> Dd × LK × PS
 | .s S => ((S.step n nw t now ta s).1, .s (S.step n nw t now ta s).2.1, (S.step n nw t now ta s).2.2)
 | .c K L => ((ZDV K n nw t ta now L s).1, .c K (ZDV K n nw t ta now L s).2.1, (ZDV K n nw t ta now L s).2.2)
theorem LK.stable (n : Nat) (S : LK) (ls : List Go.Sx.Loc) : ZDb (S.R n ls) := by
 cases S with
 | s S => exact K1.stable n S ls
 | c K L => exact ZB3 _ _ _
theorem LK.T_step (S : LK) (n nw ta : Nat) (t now : Int) (s : PS) : (S.step n nw t now ta s).2.1.T = S.T := by
 cases S with
 | s S => exact K1.T_step S n nw ta t now s
 | c K L => rfl
theorem LK.T_set (S : LK) (st dl : Nat -> Int) : (S.set st dl).T = S.T := by
 cases S with
 | s S => exact K1.T_set S st dl
 | c K L => rfl
theorem LK.ss_set (S : LK) (st dl : Nat -> Int) : (S.set st dl).ss = ⟨st, dl⟩ := by
 cases S with
 | s S => exact K1.ss_set S st dl
 | c K L => rfl
theorem LK.inv_step {S : LK} {n : Nat} (h : S.inv n) (nw ta : Nat) (t now : Int) (s : PS) : (S.step n nw t now ta s).2.1.inv n := by
 cases S with
 | s S => exact K1.inv_step (S := S) h nw ta t now s
 | c K L => exact ZMl K n nw ta t now L s h
def LK.lock (n : Nat) (S : LK) (t d : Int) : LK := S.set (lkSt n S.ss.st S.tm t d) (lkDl n S.ss.st S.ss.dl S.tm t d)
def LK.unlock (n : Nat) (S : LK) (t : Int) : LK := S.set (ulSt n S.ss.st t 3) S.ss.dl
def LK.probe (n : Nat) (S : LK) (t : Int) : LK := S.set (prSt n S.ss.st S.pr t) S.ss.dl
theorem LK.inv_lock {S : LK} {n : Nat} (h : S.inv n) (t d : Int) : (S.lock n t d).inv n := by
 cases S with
 | s S => exact K1.inv_set (S := S) h _ _ (ZOG _ _ _ _ _)
 | c K L => exact h
theorem LK.inv_unlock {S : LK} {n : Nat} (h : S.inv n) (t : Int) : (S.unlock n t).inv n := by
 cases S with
 | s S => exact K1.inv_set (S := S) h _ _ (ZKq _ _ _ _ (by omega))
 | c K L => exact h
theorem ZOI (K : CK) (n nt nw ta : Nat) (t now : Int) (hs : Nat -> Int) (L : CO) (s : PS) (hta : ta < nt) (hnt : nt <= 64) (hn : n <= 64) (hnw : nw <= 4096) (hok : ZC3 K n L) :
  ZAE Tryz.prog 271 [(0, some (.ob [1] (ZAl (ZE9 K n 8 L) 13))), (1, some (ZBC nt nw hs s))] 2 [.l (.p 0 0 0 0), .l (.v (.int .i64 t)), .l (.v (.int .i64 ta)), .l (.v (.int .i64 now))] fun x h k =>
   x = didO (ZDV K n nw t ta now L s).1 /\ k = 2 /\ h = [(0, some (.ob [1] (ZAl (ZE9 K n 8 (ZDV K n nw t ta now L s).2.1) 13))), (1, some (ZBC nt nw hs (ZDV K n nw t ta now L s).2.2))] := by
 have key := ZKp K n nt nw ta t now hs L s hn hta hnt hnw hok.ok (fun i hi => (ZIK (hok.2.2.1 i hi).1 _).1) (fun c S t => by unfold k1Lk; rw [K1.T_set])
 generalize ZDV K n nw t ta now L s = r at key ⊢
 refine ZAE.refin (ZAE.ghost (ZAS 0 (ks := [1]) (H := ZE9 K n 8 L) (np := 13) rfl (by decide) rfl rfl rfl) (ZAE.pre key ?_)) ?_
 ·exact ZAB
 ·rintro x h k ⟨rfl, rfl, rfl⟩ _
  refine ZBH (ZDF [0, 1, 2, 3, 4, 5, 6, 7, 8, 9, 10, 11, 12] (H := ZE9 K n 8 r.2.1) (np := 13) 1 rfl (by decide) rfl rfl ?_ rfl) (Nat.le_of_ble_eq_true rfl) ?_
  ·exact ZAB
  conv => whnf
  exact fA
theorem ZLr (S : LK) (n nt nw ta : Nat) (t now : Int) (hs : Nat -> Int) (s : PS) (hta : ta < nt) (hnt : nt <= 64) (hn : n <= 64) (hnw : nw <= 4096) (hok : S.inv n) :
  ZDN Tryz.prog (.l (.i S.T 0)) "Step" [(0, some (.ob [1] (S.R n))), (1, some (ZBC nt nw hs s))] 2 [.l (.v (.int .i64 t)), .l (.v (.int .i64 ta)), .l (.v (.int .i64 now))] fun x h k =>
   x = didO (S.step n nw t now ta s).1 /\ k = 2 /\ h = [(0, some (.ob [1] ((S.step n nw t now ta s).2.1.R n))), (1, some (ZBC nt nw hs (S.step n nw t now ta s).2.2))] := by
 cases S with
 | s S => exact ZHZ S n nt nw ta t now hs s hta hnt hn hnw hok.1
 | c K L => exact ZKI (fun v args w => by kernel_rfl) (ZOI K n nt nw ta t now hs L s hta hnt hn hnw hok)
theorem ZIL : IvS 239 "Lock" 210 := ZAe fun a args w => by kernel_rfl
theorem ZQO (S : LK) (n : Nat) (t d : Int) (hn : n <= 64) :
  ZDN Tryz.prog (.l (.i S.T 0)) "Lock" [(0, some (.ob [1] (S.R n)))] 2 [.l (.v (.int .i64 t)), .l (.v (.int .i64 d))] fun x h k => x = sInt .i64 (lkE n S.ss.st S.tm t d) /\ k = 2 /\ h = [(0, some (.ob [1] ((S.lock n t d).R n)))] := by
 cases S with
 | s S => exact ZOB S n t d hn
 | c K L =>
  have hq := ZFx n L.ss.st L.ss.dl false false t d hn
  refine ZA5 fun G hP hA => ?_
  refine ZAM (ZAS 0 (ks := [1]) (H := ZE9 K n 8 L) (np := 13) rfl (by decide) rfl rfl rfl) ?_
  refine ZAP hP ZIL rfl rfl ?_
  conv => whnf
  refine cA (hq) ?_
  refine ZBH (ZDF [0, 1, 2, 3, 4, 5, 6, 7, 8, 9, 10, 11, 12] (H := ZE9 K n 8 ⟨⟨lkSt n L.ss.st false t d, lkDl n L.ss.st L.ss.dl false t d⟩, L.td, L.pa, L.g, L.lo⟩) (np := 13) 1 rfl (by decide) rfl rfl ?_ rfl) (Nat.le_of_ble_eq_true rfl) ?_
  ·exact ZAB
  conv => whnf
  exact fA
theorem ZGZ : IvS 239 "Unlock" 214 := ZAe fun a args w => by kernel_rfl
theorem ZPc (S : LK) (n : Nat) (t : Int) (hn : n <= 64) :
  ZDN Tryz.prog (.l (.i S.T 0)) "Unlock" [(0, some (.ob [1] (S.R n)))] 2 [.l (.v (.int .i64 t))] fun x h k => x = sInt .i64 (hoE n S.ss.st t) /\ k = 2 /\ h = [(0, some (.ob [1] ((S.unlock n t).R n)))] := by
 cases S with
 | s S => exact ZIB S n t hn
 | c K L =>
  have hq := ZEV n L.ss.st L.ss.dl false false t hn
  refine ZA5 fun G hP hA => ?_
  refine ZAM (ZAS 0 (ks := [1]) (H := ZE9 K n 8 L) (np := 13) rfl (by decide) rfl rfl rfl) ?_
  refine ZAP hP ZGZ rfl rfl ?_
  conv => whnf
  refine cA (hq) ?_
  refine ZBH (ZDF [0, 1, 2, 3, 4, 5, 6, 7, 8, 9, 10, 11, 12] (H := ZE9 K n 8 ⟨⟨ulSt n L.ss.st t 3, L.ss.dl⟩, L.td, L.pa, L.g, L.lo⟩) (np := 13) 1 rfl (by decide) rfl rfl ?_ rfl) (Nat.le_of_ble_eq_true rfl) ?_
  ·exact ZAB
  conv => whnf
  exact fA
theorem ZHF : IvS 239 "State" 212 := ZAe fun a args w => by kernel_rfl
theorem ZGa (S : LK) (n : Nat) (t : Int) (hn : n <= 64) :
  ZDN Tryz.prog (.l (.i S.T 0)) "State" [(0, some (.ob [1] (S.R n)))] 2 [.l (.v (.int .i64 t))] fun x h k => x = sInt .i64 (stV n S.ss.st t) /\ k = 2 /\ h = [(0, some (.ob [1] (S.R n)))] := by
 cases S with
 | s S => exact ZQk S n t hn
 | c K L =>
  have hq := ZAh n L.ss.st L.ss.dl false false t
  refine ZA5 fun G hP hA => ?_
  refine ZAM (ZAS 0 (ks := [1]) (H := ZE9 K n 8 L) (np := 13) rfl (by decide) rfl rfl rfl) ?_
  refine ZAP hP ZHF rfl rfl ?_
  conv => whnf
  refine cA (hq) ?_
  refine ZBH (ZDF [0, 1, 2, 3, 4, 5, 6, 7, 8, 9, 10, 11, 12] (H := ZE9 K n 8 L) (np := 13) 1 rfl (by decide) rfl rfl ?_ rfl) (Nat.le_of_ble_eq_true rfl) ?_
  ·exact ZAB
  conv => whnf
  exact fA
theorem ZJe : IvS 239 "Len" 209 := ZAe fun a args w => by kernel_rfl
theorem ZSc (S : LK) (n : Nat)  (hn : n <= 64) :
  ZDN Tryz.prog (.l (.i S.T 0)) "Len" [(0, some (.ob [1] (S.R n)))] 2 [] fun x h k => x = sInt .i64 (n : Int) /\ k = 2 /\ h = [(0, some (.ob [1] (S.R n)))] := by
 cases S with
 | s S => exact ZSa S n hn
 | c K L =>
  have hq := ZBd n L.ss.st L.ss.dl false false
  refine ZA5 fun G hP hA => ?_
  refine ZAM (ZAS 0 (ks := [1]) (H := ZE9 K n 8 L) (np := 13) rfl (by decide) rfl rfl rfl) ?_
  refine ZAP hP ZJe rfl rfl ?_
  conv => whnf
  refine cA (hq) ?_
  refine ZBH (ZDF [0, 1, 2, 3, 4, 5, 6, 7, 8, 9, 10, 11, 12] (H := ZE9 K n 8 L) (np := 13) 1 rfl (by decide) rfl rfl ?_ rfl) (Nat.le_of_ble_eq_true rfl) ?_
  ·exact ZAB
  conv => whnf
  exact fA
structure QSt (st : Nat -> Int) (n : Nat) (q : List Nat) : Prop where
 nd : q.Nodup
 lt : ∀ t, t ∈ q -> t < n
 idle : ∀ t, st t = 0 -> t ∉ q
 hold : ∀ t, st t = 2 \/ st t = 4 -> q.head? = some t
 leave : ∀ t, st t = 3 -> t ∈ q -> q.head? = some t
 rng : ∀ t, 0 <= st t /\ st t <= 4
structure Mv (s : Int) (t : Nat) (q : List Nat) (d : Dd) (q' : List Nat) : Prop where
 al : d.a = false /\ d.l = false
 lk : s = 1 -> d.q = true -> t ∉ q /\ q' = q ++ [t] /\ (d.e = 0 \/ d.e = 1 /\ q = [])
 wt : s = 1 -> d.q = false -> d.e = 0 /\ q' = q \/ d.e = 1 /\ q.head? = some t /\ q' = q \/ d.e = 2 /\ t ∈ q /\ q' = q.erase t \/ d.e = 6 /\ t ∉ q /\ q' = q
 ul : s = 3 -> d.q = false /\ (q' = q \/ q.head? = some t /\ q' = q.tail) /\ (d.e = 0 \/ d.e = 3 /\ t ∉ q')
 no : s ≠ 1 -> s ≠ 3 -> d.q = false /\ q' = q /\ (d.e = 0 \/ s = 4 /\ (d.e = 4 \/ d.e = 5))
theorem ZGc : ∀ (n : Nat) (q : List Nat), q.Nodup -> (∀ t, t ∈ q -> t < n) -> q.length <= n
 | 0, q, _, h => by
  cases q with
  | nil => exact Nat.le_refl _
  | cons a q => exact absurd (h a (List.mem_cons_self ..)) (Nat.not_lt_zero _)
 | n + 1, q, hd, h => by
  by_cases hm : n ∈ q
  ·have h1 := ZGc n (q.erase n) (hd.erase n) fun t ht => by
    have h2 := (hd.mem_erase_iff).1 ht
    have := h t h2.2
    omega
   rw [List.length_erase_of_mem hm] at h1
   omega
  ·have h1 := ZGc n q hd fun t ht => by
    have := h t ht
    by_cases e : t = n
    ·subst e; exact absurd ht hm
    ·omega
   omega
theorem QSt.len {st : Nat -> Int} {n : Nat} {q : List Nat} (H : QSt st n q) : q.length <= n := ZGc n q H.nd H.lt
theorem ZBM {q : List Nat} {t : Nat} (h : q.head? = some t) : ∃ r, q = t :: r := by
 cases q with
 | nil => cases h
 | cons a r => simp only [List.head?_cons, Option.some.injEq] at h; exact ⟨r, by rw [h]⟩
theorem ZBT {q : List Nat} {t : Nat} (h : q.head? = some t) : t ∈ q := by
 obtain ⟨r, rfl⟩ := ZBM h
 exact List.mem_cons_self ..
theorem ZAC (f : Nat -> Int) (i : Nat) (v : Int) : updF f i v i = v := if_pos rfl
theorem ZAA (f : Nat -> Int) {i j : Nat} (v : Int) (h : j ≠ i) : updF f i v j = f j := if_neg h
theorem QSt.enq {st : Nat -> Int} {n : Nat} {q : List Nat} (H : QSt st n q) {t : Nat} (ht : t < n) (hs : st t = 1) (hq : t ∉ q) : QSt st n (q ++ [t]) := by
 have hh : ∀ u, u ≠ t -> q.head? = some u -> (q ++ [t]).head? = some u := fun u _ h => by
  obtain ⟨r, rfl⟩ := ZBM h; rfl
 refine ⟨List.nodup_append.2 ⟨H.nd, by simp, fun a ha b hb => ?_⟩, fun u hu => ?_, fun u h0 hu => ?_, fun u h2 => ?_, fun u h3 hu => ?_, H.rng⟩
 ·simp only [List.mem_singleton] at hb
  subst hb
  exact fun e => hq (e ▸ ha)
 ·simp only [List.mem_append, List.mem_singleton] at hu
  rcases hu with hu | rfl
  ·exact H.lt u hu
  ·exact ht
 ·simp only [List.mem_append, List.mem_singleton] at hu
  rcases hu with hu | rfl
  ·exact H.idle u h0 hu
  ·omega
 ·exact hh u (fun e => by subst e; omega) (H.hold u h2)
 ·simp only [List.mem_append, List.mem_singleton] at hu
  rcases hu with hu | rfl
  ·exact hh u (fun e => by subst e; omega) (H.leave u h3 hu)
  ·omega
theorem QSt.grant {st : Nat -> Int} {n : Nat} {q : List Nat} (H : QSt st n q) {t : Nat} (hq : q.head? = some t) {v : Int} (hv : v = 2 \/ v = 3 \/ v = 4 \/ v = 1) : QSt (updF st t v) n q := by
 refine ⟨H.nd, H.lt, fun u h0 hu => ?_, fun u h2 => ?_, fun u h3 hu => ?_, fun u => ?_⟩
 ·by_cases e : u = t
  ·subst e; rw [ZAC] at h0; omega
  ·rw [ZAA _ _ e] at h0; exact H.idle u h0 hu
 ·by_cases e : u = t
  ·subst e; exact hq
  ·rw [ZAA _ _ e] at h2; exact H.hold u h2
 ·by_cases e : u = t
  ·subst e; exact hq
  ·rw [ZAA _ _ e] at h3; exact H.leave u h3 hu
 ·by_cases e : u = t
  ·subst e; rw [ZAC]; omega
  ·rw [ZAA _ _ e]; exact H.rng u
theorem QSt.pop {st : Nat -> Int} {n : Nat} {q : List Nat} (H : QSt st n q) {t : Nat} (hq : q.head? = some t) (hs : st t = 3) : QSt st n q.tail := by
 obtain ⟨r, rfl⟩ := ZBM hq
 have hd := List.nodup_cons.1 H.nd
 refine ⟨hd.2, fun u hu => H.lt u (List.mem_cons_of_mem _ hu), fun u h0 hu => H.idle u h0 (List.mem_cons_of_mem _ hu), fun u h2 => ?_, fun u h3 hu => ?_, H.rng⟩
 ·have := H.hold u h2
  simp only [List.head?_cons, Option.some.injEq] at this
  subst this; omega
 ·have := H.leave u h3 (List.mem_cons_of_mem _ hu)
  simp only [List.head?_cons, Option.some.injEq] at this
  subst this; exact absurd hu hd.1
theorem QSt.out {st : Nat -> Int} {n : Nat} {q : List Nat} (H : QSt st n q) {t : Nat} (hq : t ∉ q) {v : Int} (hv : v = 0 \/ v = 1) : QSt (updF st t v) n q := by
 refine ⟨H.nd, H.lt, fun u h0 hu => ?_, fun u h2 => ?_, fun u h3 hu => ?_, fun u => ?_⟩
 ·by_cases e : u = t
  ·subst e; exact hq hu
  ·rw [ZAA _ _ e] at h0; exact H.idle u h0 hu
 ·by_cases e : u = t
  ·subst e; rw [ZAC] at h2; omega
  ·rw [ZAA _ _ e] at h2; exact H.hold u h2
 ·by_cases e : u = t
  ·subst e; exact absurd hu hq
  ·rw [ZAA _ _ e] at h3; exact H.leave u h3 hu
 ·by_cases e : u = t
  ·subst e; rw [ZAC]; omega
  ·rw [ZAA _ _ e]; exact H.rng u
theorem QSt.quit {st : Nat -> Int} {n : Nat} {q : List Nat} (H : QSt st n q) {t : Nat} (hs : st t = 1) : QSt (updF st t 0) n (q.erase t) := by
 have hm : ∀ u, u ∈ q.erase t ↔ u ≠ t /\ u ∈ q := fun u => H.nd.mem_erase_iff
 have hh : ∀ u, u ≠ t -> q.head? = some u -> (q.erase t).head? = some u := fun u hu h => by
  obtain ⟨r, rfl⟩ := ZBM h
  rw [List.erase_cons_tail (by simpa using hu)]; rfl
 refine ⟨H.nd.erase t, fun u hu => H.lt u ((hm u).1 hu).2, fun u h0 hu => ?_, fun u h2 => ?_, fun u h3 hu => ?_, fun u => ?_⟩
 ·have h1 := (hm u).1 hu
  rw [ZAA _ _ h1.1] at h0; exact H.idle u h0 h1.2
 ·have e : u ≠ t := fun e => by subst e; rw [ZAC] at h2; omega
  rw [ZAA _ _ e] at h2; exact hh u e (H.hold u h2)
 ·have h1 := (hm u).1 hu
  rw [ZAA _ _ h1.1] at h3; exact hh u h1.1 (H.leave u h3 h1.2)
 ·by_cases e : u = t
  ·subst e; rw [ZAC]; omega
  ·rw [ZAA _ _ e]; exact H.rng u
theorem qst0 (n : Nat) : QSt (fun _ => 0) n [] := ⟨List.nodup_nil, by simp, by simp, by intro t h; simp at h, by simp, by simp⟩
theorem ZDK {ss : SS} {t : Nat} {e : Int} (h : ZCP (ss.st t) e < 0) : enSS ss t e = ss := by
 unfold enSS enSt enDl
 rw [decide_eq_true h]; rfl
theorem ZA7 {ss : SS} {t : Nat} {e v : Int} (h : ZCP (ss.st t) e = v) (hv : 0 <= v) : (enSS ss t e).st = updF ss.st t v := by
 unfold enSS enSt
 rw [h, decide_eq_false (by omega)]; rfl
theorem ZDu {nw a : Nat} (h : a < nw) : inW nw (a : Int) = true := by simp [inW, h]
theorem ZDf (nw t : Nat) (a : Int) (s : PS) : (rdS nw t a s).ws = s.ws := by unfold rdS; cases inW nw a <;> rfl
theorem ZDW {nw a : Nat} (h : a < nw) (s : PS) : rdV nw (a : Int) s = s.ws a := by unfold rdV; rw [ZDu h]; rfl
theorem ZDX {nw a : Nat} (h : a < nw) (t : Nat) (v : Int) (s : PS) : (wtS nw t (a : Int) v s).ws = updF s.ws a v := by unfold wtS; rw [ZDu h]; rfl
theorem ZR7 {nw a : Nat} (h : a < nw) (t : Nat) (v : Int) (s : PS) : (adS nw t (a : Int) v s).ws = updF s.ws a (addW (s.ws a) v) := by unfold adS; rw [ZDu h]; rfl
theorem ZR8 {nw a : Nat} (h : a < nw) (v : Int) (s : PS) : adV nw (a : Int) v s = addW (addW (s.ws a) v) (-v) := by unfold adV; rw [ZDu h]; rfl
theorem ZJi {nw a : Nat} (h : a < nw) (o : Int) (s : PS) : casB nw (a : Int) o s = decide (s.ws a = o) := by unfold casB; rw [ZDu h]; rfl
theorem ZHc {nw a : Nat} (h : a < nw) (t : Nat) (o v : Int) (s : PS) : (casS nw t (a : Int) o v s).ws = pick (decide (s.ws a = o)) (updF s.ws a v) s.ws := by unfold casS; rw [ZDu h]; rfl
theorem ZOM (x : Int) : u32p x = (x + 1) % 4294967296 := by unfold u32p; rw [IntKind.wrap_u32]
theorem ZON (x : Int) : u32w x = x % 4294967296 := by unfold u32w; rw [IntKind.wrap_u32]
theorem ZOO (x d : Int) : addW x d = (x + d) % 4294967296 := by unfold addW; rw [IntKind.wrap_u32]
theorem ZBa {x : Int} (h0 : -9223372036854775808 <= x) (h1 : x <= 9223372036854775807) : i64w x = x := by unfold i64w; rw [IntKind.wrap_i64]; omega
theorem ZA8 {q : List Nat} {i t : Nat} (h : q[i]? = some t) : t ∈ q := List.mem_of_getElem? h
theorem ZGd {q : List Nat} {t : Nat} (h : t ∈ q) : ∃ i, i < q.length /\ q[i]? = some t := by
 obtain ⟨i, hi, e⟩ := List.mem_iff_getElem.1 h
 exact ⟨i, hi, by rw [List.getElem?_eq_getElem hi, e]⟩
theorem ZHd {q : List Nat} {i t : Nat} (h : q[i]? = some t) : i < q.length := (List.getElem?_eq_some_iff.1 h).1
theorem ZGD {q : List Nat} {i t u : Nat} (h : (q ++ [t])[i]? = some u) : q[i]? = some u \/ i = q.length /\ u = t := by
 by_cases hi : i < q.length
 ·rw [List.getElem?_append_left hi] at h; exact .inl h
 ·rw [List.getElem?_append_right (by omega)] at h
  by_cases e : i - q.length = 0
  ·rw [e] at h; simp only [List.getElem?_cons_zero, Option.some.injEq] at h; exact .inr ⟨by omega, h.symm⟩
  ·rw [show i - q.length = (i - q.length - 1) + 1 by omega] at h
   simp at h
theorem ZCQ {q : List Nat} (hd : q.Nodup) {i j t : Nat} (h1 : q[i]? = some t) (h2 : q[j]? = some t) : i = j :=
 (List.getElem?_inj (ZHd h1) hd).1 (h1.trans h2.symm)
theorem ZB9 {q : List Nat} {t : Nat} : q.head? = some t ↔ q[0]? = some t := by
 cases q <;> simp
structure FlInv (n nx ow : Nat) (L : FL) (ws : Nat -> Int) (q : List Nat) (o : Nat) : Prop where
 qs : QSt L.ss.st n q
 dr : ∀ t, L.dr t = true ↔ t ∈ q
 now : ws ow = (o : Int) % 4294967296
 nxt : ws nx = ((o + q.length : Nat) : Int) % 4294967296
 nu : ∀ i t, q[i]? = some t -> L.nu t = ((o + i : Nat) : Int) % 4294967296
 ul : ∀ t, L.ss.st t = 3 -> t ∈ q
theorem ZLs (f : Nat -> Bool) (i : Nat) (v : Bool) : ZKc f i v i = v := if_pos rfl
theorem ZLt (f : Nat -> Bool) {i j : Nat} (v : Bool) (h : j ≠ i) : ZKc f i v j = f j := if_neg h
theorem ZLu {n nw t ta : Nat} (nx ow : Int) (L : FL) (s : PS) (ht : t < n) : ZBX n nw nx ow (t : Int) ta L s = ZF7 t (ZDI nw nx ow t ta L s) := by
 unfold ZBX; rw [ZDu ht]; rfl
theorem ZQo {n nw nx ow t ta : Nat} {L : FL} {s : PS} {q : List Nat} {o : Nat} (H : FlInv n nx ow L s.ws q o) (ht : t < n) (hn : n <= 64) (hx : nx < nw) (hw : ow < nw) (hne : nx ≠ ow) :
  ∃ q' o', FlInv n nx ow (ZBX n nw nx ow t ta L s).2.1 (ZBX n nw nx ow t ta L s).2.2.ws q' o' /\ Mv (L.ss.st t) t q (ZBX n nw nx ow t ta L s).1 q' /\ ∀ a, a ≠ nx -> a ≠ ow -> (ZBX n nw nx ow t ta L s).2.2.ws a = s.ws a := by
 rw [ZLu nx ow L s ht]
 have hr := H.qs.rng t
 have hlen := H.qs.len
 rcases (show L.ss.st t = 1 \/ L.ss.st t = 3 \/ L.ss.st t = 4 \/ L.ss.st t = 0 \/ L.ss.st t = 2 by omega) with e | e | e | e | e
 ·cases hd : L.dr t with
  | false =>
   have hq : t ∉ q := fun h => by rw [(H.dr t).2 h] at hd; cases hd
   have hm : ZDI nw nx ow t ta L s = (⟨0, true, false, false⟩, ⟨L.ss, updF L.nu t (adV nw nx 1 s), ZKc L.dr t true⟩, adS nw ta nx 1 s) := by
    simp [ZDI, e, pick, flLk, hd]
   have hss : enSS L.ss t 0 = L.ss := ZDK (by rw [e]; decide)
   rw [hm]
   simp only [ZF7, hss, ZR7 hx, ZR8 hx, ZOO, H.nxt]
   refine ⟨q ++ [t], o, ⟨H.qs.enq ht e hq, fun u => ?_, ?_, ?_, fun i u hi => ?_, fun u h3 => List.mem_append_left _ (H.ul u h3)⟩, ⟨⟨rfl, rfl⟩, fun _ _ => ⟨hq, rfl, .inl rfl⟩, fun _ h => by (cases h), fun h => by omega, fun h => absurd e h⟩, fun a h1 h2 => ZAA _ _ h1⟩
   ·simp only [List.mem_append, List.mem_singleton]
    by_cases h : u = t
    ·subst h; simp [ZLs]
    ·rw [ZLt _ _ h, H.dr u]; simp [h]
   ·rw [ZAA _ _ (Ne.symm hne)]; exact H.now
   ·rw [ZAC, List.length_append, List.length_singleton]; omega
   ·rcases ZGD hi with h | ⟨rfl, rfl⟩
    ·have h1 : u ≠ t := fun e => hq (e ▸ ZA8 h)
     simp only [ZAA _ _ h1]
     exact H.nu i u h
    ·simp only [ZAC]; omega
  | true =>
   obtain ⟨i, hi, hg⟩ := ZGd ((H.dr t).1 hd)
   have hnu := H.nu i t hg
   by_cases hz : i = 0
   ·subst hz
    have hm : ZDI nw nx ow t ta L s = (evD 1, L, rdS nw ta ow s) := by
     simp [ZDI, e, pick, flLk, hd, ZDW hw, H.now, hnu]
    rw [hm]
    simp only [ZF7, evD, ZA7 (ss := L.ss) (t := t) (e := 1) (v := 2) (by rw [e]; decide) (by omega), ZDf]
    have hh : q.head? = some t := ZB9.2 hg
    refine ⟨q, o, ⟨?_, H.dr, H.now, H.nxt, H.nu, ?_⟩, ⟨⟨rfl, rfl⟩, fun _ h => by (cases h), fun _ _ => .inr (.inl ⟨rfl, hh, rfl⟩), fun h => by omega, fun h => absurd e h⟩, fun a _ _ => by first | rfl | trivial⟩
    ·simp only [ZA7 (ss := L.ss) (t := t) (e := 1) (v := 2) (by rw [e]; decide) (by omega)]
     exact H.qs.grant hh (.inl rfl)
    ·simp only [ZA7 (ss := L.ss) (t := t) (e := 1) (v := 2) (by rw [e]; decide) (by omega)]
     intro u h3
     by_cases hu : u = t
     ·subst hu; rw [ZAC] at h3; omega
     ·rw [ZAA _ _ hu] at h3; exact H.ul u h3
   ·have hm : ZDI nw nx ow t ta L s = (evD 0, L, rdS nw ta ow s) := by
     have h2 : decide (rdV nw ow s = L.nu t) = false := decide_eq_false (by rw [ZDW hw, H.now, hnu]; omega)
     simp only [ZDI, e, decide_true, pick, flLk, hd, h2]
    rw [hm]
    simp only [ZF7, evD, ZDK (ss := L.ss) (t := t) (e := 0) (by rw [e]; decide), ZDf]
    exact ⟨q, o, H, ⟨⟨rfl, rfl⟩, fun _ h => by (cases h), fun _ _ => .inl ⟨rfl, rfl⟩, fun h => by omega, fun h => absurd e h⟩, fun a _ _ => by first | rfl | trivial⟩
 ·have hq := H.ul t e
  have hh := H.qs.leave t e hq
  have hnu := H.nu 0 t (ZB9.1 hh)
  have hm : ZDI nw nx ow t ta L s = (evD 3, ⟨L.ss, L.nu, ZKc L.dr t false⟩, wtS nw ta ow (u32p (L.nu t)) s) := by
   simp [ZDI, e, pick]
  have hss := ZA7 (ss := L.ss) (t := t) (e := 3) (v := 0) (by rw [e]; decide) (by omega)
  obtain ⟨r, rfl⟩ := ZBM hh
  have hnd := List.nodup_cons.1 H.qs.nd
  have hp := H.qs.pop hh e
  simp only [List.tail_cons] at hp
  rw [hm]
  simp only [ZF7, evD, ZDX hw, ZOM, hnu]
  refine ⟨r, o + 1, ⟨?_, fun u => ?_, ?_, ?_, fun i u hi => ?_, fun u h3 => ?_⟩, ⟨⟨rfl, rfl⟩, fun h => by omega, fun h => by omega, fun _ => ⟨rfl, .inr ⟨hh, rfl⟩, .inr ⟨rfl, hnd.1⟩⟩, fun _ h => absurd e h⟩, fun a h1 h2 => ZAA _ _ h2⟩
  ·simp only [hss]; exact hp.out hnd.1 (.inl rfl)
  ·by_cases h : u = t
   ·subst h; simp [ZLs, hnd.1]
   ·show ZKc L.dr t false u = true ↔ _
    rw [ZLt _ _ h, H.dr u]; simp [h]
  ·rw [ZAC]; omega
  ·rw [ZAA _ _ hne, H.nxt, List.length_cons]; congr 1; omega
  ·have := H.nu (i + 1) u (by simpa using hi)
   rw [this]; congr 1; omega
  ·simp only [hss] at h3
   by_cases hu : u = t
   ·subst hu; rw [ZAC] at h3; omega
   ·rw [ZAA _ _ hu] at h3
    have h4 := H.ul u h3
    simp only [List.mem_cons] at h4
    exact h4.resolve_left hu
 ·have hh := H.qs.hold t (.inr e)
  rcases (show pick (decide (rdV nw nx s = u32p (L.nu t))) (4 : Int) 5 = 4 \/ pick (decide (rdV nw nx s = u32p (L.nu t))) (4 : Int) 5 = 5 by cases decide (rdV nw nx s = u32p (L.nu t)) <;> simp [pick]) with e4 | e4
  all_goals
   have hm : ZDI nw nx ow t ta L s = (evD (pick (decide (rdV nw nx s = u32p (L.nu t))) 4 5), L, rdS nw ta nx s) := by
    simp [ZDI, e, pick]
   have hss := ZA7 (ss := L.ss) (t := t) (e := pick (decide (rdV nw nx s = u32p (L.nu t))) 4 5) (v := 2) (by rw [e, e4]; decide) (by omega)
   rw [hm]
   simp only [ZF7, evD, ZDf]
   refine ⟨q, o, ⟨?_, H.dr, H.now, H.nxt, H.nu, ?_⟩, ⟨⟨rfl, rfl⟩, fun h => by omega, fun h => by omega, fun h => by omega, fun _ _ => ⟨rfl, rfl, .inr ⟨e, by first | exact .inl e4 | exact .inr e4⟩⟩⟩, fun a _ _ => by first | rfl | trivial⟩
   ·simp only [hss]; exact H.qs.grant hh (.inl rfl)
   ·simp only [hss]
    intro u h3
    by_cases hu : u = t
    ·subst hu; rw [ZAC] at h3; omega
    ·rw [ZAA _ _ hu] at h3; exact H.ul u h3
 all_goals
  have hm : ZDI nw nx ow t ta L s = (evD 0, L, s) := by
   simp [ZDI, e, pick]
  rw [hm]
  simp only [ZF7, evD, ZDK (ss := L.ss) (t := t) (e := 0) (by rw [e]; decide)]
  exact ⟨q, o, H, ⟨⟨rfl, rfl⟩, fun h => by omega, fun h => by omega, fun h => by omega, fun _ _ => ⟨rfl, rfl, .inl rfl⟩⟩, fun a _ _ => by first | rfl | trivial⟩
theorem ZPh (u n : Nat) (hu : u < 4294967296) (hn : ZBW n) : ZMW n (u : Int) = ((u % n : Nat) : Int) := by
 unfold ZMW
 rcases hn with rfl | rfl | rfl | rfl | rfl | rfl | rfl
 ·exact ZBV u 0 hu (by omega)
 ·exact ZBV u 1 hu (by omega)
 ·exact ZBV u 2 hu (by omega)
 ·exact ZBV u 3 hu (by omega)
 ·exact ZBV u 4 hu (by omega)
 ·exact ZBV u 5 hu (by omega)
 ·exact ZBV u 6 hu (by omega)
theorem ZPi {m : Nat} (hm : ZBW m) (x : Nat) : x % 4294967296 % m = x % m := by
 rcases hm with rfl | rfl | rfl | rfl | rfl | rfl | rfl <;> omega
theorem ZPj {m : Nat} (hm : ZBW m) : 0 < m := by rcases hm with rfl | rfl | rfl | rfl | rfl | rfl | rfl <;> omega
theorem ZOP {m : Nat} (hm : ZBW m) (tl x : Nat) {u : Int} (hu : u = (x : Int) % 4294967296) : slA tl m u = ((tl + 1 + x % m : Nat) : Int) := by
 have h : u = ((x % 4294967296 : Nat) : Int) := by rw [hu]; omega
 unfold slA
 rw [h, ZPh _ m (Nat.mod_lt _ (by omega)) hm, ZPi hm]
 omega
theorem ZR9 {m o i : Nat} (hm : ZBW m) (hi : i < m) (h : (o + i) % m = o % m) : i = 0 := by
 rcases hm with rfl | rfl | rfl | rfl | rfl | rfl | rfl <;> omega
structure SlInv (n tl m : Nat) (L : SL) (ws : Nat -> Int) (q : List Nat) (o : Nat) : Prop where
 qs : QSt L.ss.st n q
 on : ∀ t, t ∈ q ↔ L.ss.st t = 1 /\ L.sp t ≠ 0 \/ L.ss.st t = 2 \/ L.ss.st t = 3
 sp : ∀ t, (L.sp t = 0 \/ L.sp t = 1 \/ L.sp t = 2) /\ (L.ss.st t = 0 -> L.sp t = 0) /\ (L.ss.st t = 1 -> L.sp t = 2 -> q.head? = some t)
 nxt : ws tl = ((o + q.length : Nat) : Int) % 4294967296
 nu : ∀ i t, q[i]? = some t -> L.nu t = ((o + i : Nat) : Int) % 4294967296
 fl : ∀ j, j < m -> (ws (tl + 1 + j) ≠ 0 ↔ j = o % m /\ ∀ t, q.head? = some t -> L.ss.st t = 1)
theorem ZLv {n nw t ta : Nat} (tl : Int) (m : Nat) (L : SL) (s : PS) (ht : t < n) : ZBn n nw tl m (t : Int) ta L s = ZF8 t (ZDJ nw tl m t ta L s) := by
 unfold ZBn; rw [ZDu ht]; rfl
theorem ZQp {n nw tl m t ta : Nat} {L : SL} {s : PS} {q : List Nat} {o : Nat} (H : SlInv n tl m L s.ws q o) (ht : t < n) (hm : ZBW m) (hnm : n <= m) (hx : tl + m < nw) :
  ∃ q' o', SlInv n tl m (ZBn n nw tl m t ta L s).2.1 (ZBn n nw tl m t ta L s).2.2.ws q' o' /\ Mv (L.ss.st t) t q (ZBn n nw tl m t ta L s).1 q' := by
 rw [ZLv tl m L s ht]
 have hr := H.qs.rng t
 have hlen := H.qs.len
 have hmp := ZPj hm
 have hm64 : m <= 64 := by unfold ZBW at hm; omega
 obtain ⟨hsp, hs0, hs2⟩ := H.sp t
 rcases (show L.ss.st t = 1 \/ L.ss.st t = 3 \/ L.ss.st t = 4 \/ L.ss.st t = 0 \/ L.ss.st t = 2 by omega) with e | e | e | e | e
 ·rcases hsp with e0 | e0 | e0
  ·have hq : t ∉ q := fun h => by have := (H.on t).1 h; omega
   have hmd : ZDJ nw tl m t ta L s = (⟨0, true, false, false⟩, ⟨L.ss, updF L.nu t (adV nw tl 1 s), updF L.sp t 1⟩, adS nw ta tl 1 s) := by
    simp only [ZDJ, e, decide_true, pick, slLk, e0]
   have hss : enSS L.ss t 0 = L.ss := ZDK (by rw [e]; decide)
   rw [hmd]
   simp only [ZF8, hss, ZR7 (show tl < nw by omega), ZR8 (show tl < nw by omega), ZOO, H.nxt]
   refine ⟨q ++ [t], o, ⟨H.qs.enq ht e hq, fun u => ?_, fun u => ?_, ?_, fun i u hi => ?_, fun j hj => ?_⟩, ⟨⟨rfl, rfl⟩, fun _ _ => ⟨hq, rfl, .inl rfl⟩, fun _ h => by (cases h), fun h => by omega, fun h => absurd e h⟩⟩
   ·simp only [List.mem_append, List.mem_singleton]
    by_cases h : u = t
    ·subst h; simp [ZAC, e]
    ·show _ ↔ L.ss.st u = 1 /\ updF L.sp t 1 u ≠ 0 \/ _
     rw [ZAA _ _ h]
     have := H.on u
     simp only [h, or_false]; exact this
   ·by_cases h : u = t
    ·subst h; simp only [ZAC]; refine ⟨?_, ?_, ?_⟩ <;> simp [e]
    ·simp only [ZAA _ _ h]
     obtain ⟨p1, p2, p3⟩ := H.sp u
     refine ⟨p1, p2, fun a b => ?_⟩
     obtain ⟨r, hr⟩ := ZBM (p3 a b)
     rw [hr]; rfl
   ·rw [ZAC, List.length_append, List.length_singleton]; omega
   ·rcases ZGD hi with h | ⟨rfl, rfl⟩
    ·have h1 : u ≠ t := fun e => hq (e ▸ ZA8 h)
     simp only [ZAA _ _ h1]
     exact H.nu i u h
    ·simp only [ZAC]; omega
   ·rw [ZAA _ _ (show tl + 1 + j ≠ tl by omega), H.fl j hj]
    refine and_congr_right fun _ => ?_
    cases q with
    | nil => simp [e]
    | cons a r => simp
  ·have hin : t ∈ q := (H.on t).2 (.inl ⟨e, by omega⟩)
   obtain ⟨i, hi, hg⟩ := ZGd hin
   have hnu := H.nu i t hg
   have ha := ZOP hm tl (o + i) hnu
   have hlt := Nat.mod_lt (o + i) hmp
   have hf := H.fl ((o + i) % m) hlt
   have hss : enSS L.ss t 0 = L.ss := ZDK (by rw [e]; decide)
   by_cases hz : s.ws (tl + 1 + (o + i) % m) = 0
   ·have hmd : ZDJ nw tl m t ta L s = (evD 0, L, rdS nw ta (slA tl m (L.nu t)) s) := by
     simp only [ZDJ, e, decide_true, pick, slLk, e0, Int.reduceEq, decide_false, ha, ZDW (show tl + 1 + (o + i) % m < nw by omega), hz]
    rw [hmd]
    simp only [ZF8, evD, hss, ZDf]
    exact ⟨q, o, H, ⟨⟨rfl, rfl⟩, fun _ h => by (cases h), fun _ _ => .inl ⟨rfl, rfl⟩, fun h => by omega, fun h => absurd e h⟩⟩
   ·have hmd : ZDJ nw tl m t ta L s = (evD 0, ⟨L.ss, L.nu, updF L.sp t 2⟩, rdS nw ta (slA tl m (L.nu t)) s) := by
     simp only [ZDJ, e, decide_true, pick, slLk, e0, Int.reduceEq, decide_false, ha, ZDW (show tl + 1 + (o + i) % m < nw by omega), hz]
    have h1 := (hf.1 hz).1
    have hi0 := ZR9 hm (by omega) h1
    subst hi0
    have hh : q.head? = some t := ZB9.2 hg
    rw [hmd]
    simp only [ZF8, evD, hss, ZDf]
    refine ⟨q, o, ⟨H.qs, fun u => ?_, fun u => ?_, H.nxt, H.nu, H.fl⟩, ⟨⟨rfl, rfl⟩, fun _ h => by (cases h), fun _ _ => .inl ⟨rfl, rfl⟩, fun h => by omega, fun h => absurd e h⟩⟩
    ·by_cases h : u = t
     ·subst h; simp [ZAC, e, hin]
     ·show _ ↔ L.ss.st u = 1 /\ updF L.sp t 2 u ≠ 0 \/ _
      rw [ZAA _ _ h]; exact H.on u
    ·by_cases h : u = t
     ·subst h; simp only [ZAC]; exact ⟨by simp, by simp [e], fun _ _ => hh⟩
     ·simp only [ZAA _ _ h]; exact H.sp u
  ·have hh := hs2 e e0
   have hnu := H.nu 0 t (ZB9.1 hh)
   have ha := ZOP hm tl (o + 0) hnu
   have hlt := Nat.mod_lt (o + 0) hmp
   have hmd : ZDJ nw tl m t ta L s = (evD 1, L, wtS nw ta (slA tl m (L.nu t)) 0 s) := by
    simp only [ZDJ, e, decide_true, pick, slLk, e0, Int.reduceEq, decide_false]
   have hss := ZA7 (ss := L.ss) (t := t) (e := 1) (v := 2) (by rw [e]; decide) (by omega)
   rw [hmd]
   simp only [ZF8, evD, ha, ZDX (show tl + 1 + (o + 0) % m < nw by omega)]
   refine ⟨q, o, ⟨?_, fun u => ?_, fun u => ?_, ?_, H.nu, fun j hj => ?_⟩, ⟨⟨rfl, rfl⟩, fun _ h => by (cases h), fun _ _ => .inr (.inl ⟨rfl, hh, rfl⟩), fun h => by omega, fun h => absurd e h⟩⟩
   ·simp only [hss]; exact H.qs.grant hh (.inl rfl)
   ·simp only [hss]
    by_cases h : u = t
    ·subst h; simp [ZAC, ZBT hh]
    ·rw [ZAA _ _ h]; exact H.on u
   ·simp only [hss]
    by_cases h : u = t
    ·subst h; simp only [ZAC]; exact ⟨.inr (.inr e0), by omega, by omega⟩
    ·rw [ZAA _ _ h]; exact H.sp u
   ·rw [ZAA _ _ (show tl ≠ tl + 1 + (o + 0) % m by omega)]; exact H.nxt
   ·simp only [hss]
    by_cases h : j = o % m
    ·have e1 : tl + 1 + j = tl + 1 + (o + 0) % m := by rw [h]; rfl
     rw [e1, ZAC]
     refine ⟨fun h => absurd rfl h, fun h2 => ?_⟩
     have := h2.2 t hh
     rw [ZAC] at this; omega
    ·rw [ZAA _ _ (show tl + 1 + j ≠ tl + 1 + (o + 0) % m from fun e1 => h (by have : (o + 0) % m = o % m := rfl; omega)), H.fl j hj]
     exact ⟨fun h2 => absurd h2.1 h, fun h2 => absurd h2.1 h⟩
 ·have hq := (H.on t).2 (.inr (.inr e))
  have hh := H.qs.leave t e hq
  have hnu := H.nu 0 t (ZB9.1 hh)
  have hnu2 : u32p (L.nu t) = ((o + 1 : Nat) : Int) % 4294967296 := by rw [ZOM, hnu]; omega
  have ha := ZOP hm tl (o + 1) hnu2
  have hlt := Nat.mod_lt (o + 1) hmp
  have hmd : ZDJ nw tl m t ta L s = (evD 3, ⟨L.ss, updF L.nu t 0, updF L.sp t 0⟩, wtS nw ta (slA tl m (u32p (L.nu t))) 1 s) := by
   simp only [ZDJ, e, Int.reduceEq, decide_true, decide_false, pick]
  have hss := ZA7 (ss := L.ss) (t := t) (e := 3) (v := 0) (by rw [e]; decide) (by omega)
  obtain ⟨r, rfl⟩ := ZBM hh
  have hnd := List.nodup_cons.1 H.qs.nd
  have hp := H.qs.pop hh e
  simp only [List.tail_cons] at hp
  rw [hmd]
  simp only [ZF8, evD, ha, ZDX (show tl + 1 + (o + 1) % m < nw by omega)]
  refine ⟨r, o + 1, ⟨?_, fun u => ?_, fun u => ?_, ?_, fun i u hi => ?_, fun j hj => ?_⟩, ⟨⟨rfl, rfl⟩, fun h => by omega, fun h => by omega, fun _ => ⟨rfl, .inr ⟨hh, rfl⟩, .inr ⟨rfl, hnd.1⟩⟩, fun _ h => absurd e h⟩⟩
  ·simp only [hss]; exact hp.out hnd.1 (.inl rfl)
  ·simp only [hss]
   by_cases h : u = t
   ·subst h; simp [ZAC, hnd.1]
   ·rw [ZAA _ _ h, ZAA _ _ h, <- H.on u]; simp [h]
  ·simp only [hss]
   by_cases h : u = t
   ·subst h; simp only [ZAC]; refine ⟨?_, ?_, ?_⟩ <;> simp [e]
   ·rw [ZAA _ _ h, ZAA _ _ h]
    obtain ⟨p1, p2, p3⟩ := H.sp u
    refine ⟨p1, p2, fun a b => ?_⟩
    have h5 := p3 a b
    simp only [List.head?_cons, Option.some.injEq] at h5
    exact absurd h5.symm h
  ·rw [ZAA _ _ (show tl ≠ tl + 1 + (o + 1) % m by omega), H.nxt, List.length_cons]; congr 1; omega
  ·have h1 : u ≠ t := fun e => hnd.1 (e ▸ ZA8 hi)
   have := H.nu (i + 1) u (by simpa using hi)
   simp only [ZAA _ _ h1]
   rw [this]; congr 1; omega
  ·simp only [hss]
   have hall : ∀ u, r.head? = some u -> updF L.ss.st t 0 u = 1 := fun u hu => by
    have hm1 := ZBT hu
    have h1 : u ≠ t := fun e => hnd.1 (e ▸ hm1)
    rw [ZAA _ _ h1]
    have hm2 : u ∈ t :: r := List.mem_cons_of_mem _ hm1
    have h2 := H.qs.rng u
    have h3 : L.ss.st u ≠ 0 := fun h => H.qs.idle u h hm2
    have h4 : ¬ (L.ss.st u = 2 \/ L.ss.st u = 4) := fun h => by
     have := H.qs.hold u h
     simp only [List.head?_cons, Option.some.injEq] at this; exact h1 this.symm
    have h5 : L.ss.st u ≠ 3 := fun h => by
     have := H.qs.leave u h hm2
     simp only [List.head?_cons, Option.some.injEq] at this; exact h1 this.symm
    omega
   by_cases h : j = (o + 1) % m
   ·rw [h, ZAC]
    exact ⟨fun _ => ⟨rfl, hall⟩, fun _ => by decide⟩
   ·rw [ZAA _ _ (show tl + 1 + j ≠ tl + 1 + (o + 1) % m by omega)]
    refine ⟨fun h2 => ?_, fun h2 => absurd h2.1 h⟩
    have h3 := ((H.fl j hj).1 h2).2 t rfl
    omega
 ·have hh := H.qs.hold t (.inr e)
  have := (H.on t).1 (ZBT hh)
  omega
 all_goals
  have hmd : ZDJ nw tl m t ta L s = (evD 0, L, s) := by
   simp only [ZDJ, e, Int.reduceEq, decide_true, decide_false, pick]
  rw [hmd]
  simp only [ZF8, evD, ZDK (ss := L.ss) (t := t) (e := 0) (by rw [e]; decide)]
  exact ⟨q, o, H, ⟨⟨rfl, rfl⟩, fun h => by omega, fun h => by omega, fun h => by omega, fun _ _ => ⟨rfl, rfl, .inl rfl⟩⟩⟩
end Go.Proofs.YtlkfolopbehikaaGreat
