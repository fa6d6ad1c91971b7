/- Locks: homes looked through; seats and plans, made. · Locks: plans. · Locks: a word of a plan; what a home may not be; a lock of Craig, Landin and Hagersten, made. · Locks: memories, caches, ports, made. · Locks: caches and ports, made. · Locks: a lock of Craig, Landin and Hagersten is given its port. · Locks: a configuration laid and built (a lock of Craig, Landin and Hagersten). · Locks: a lock of Mellor-Crummey and Scott, made. · Locks: a ticket lock, made. · Locks: ticket locks and locks of Mellor-Crummey and Scott, with their port; laid and built. · Locks: a hierarchical lock, made. · Locks: hierarchical locks, with their port; laid and built. · Locks: how many slots there may be. · Locks: what can't be laid isn't built. · Build*: the document's examples. · Locks' steps: what a memory, a cache and a port do. · Locks' steps: what a cache and a port do. · Locks' steps: a port's accesses. · Locks' steps: a port's operations. · Locks in general: a port's operations at any address. · Locks' steps: seats; the lock of kind 1. · Locks' steps: the end of a step; the flat lock's first two steps. · Locks in general: seats, whatever is called. · Locks in general: the lock of kind 1, any step. · Locks: a counter's slot; Anderson's lock, made. · Locks: pools, made. · Locks: a queue lock that can be given up, made. · Locks: Anderson's, and those that can be given up, with their port; laid and built. · Locks in general: Anderson's lock, any step. · Locks in general: the lock of Craig, Landin and Hagersten, any step. -/
import Derived.Test.YtlkfolopbehikaaGreatSxPA
import Derived.Test.YtlkfolopbehikaaGreatSxC
import Derived.Test.YtlkfolopbehikaaGreatSxV
import Derived.Test.YtlkfolopbehikaaGreatSxPM
import Derived.Test.YtlkfolopbehikaaGreatSxPN
import Derived.Test.YtlkfolopbehikaaGreatSxPQ
import Derived.Test.YtlkfolopbehikaaGreatSxPT
import Derived.Test.YtlkfolopbehikaaGreatSxPR
set_option linter.unusedSimpArgs false
set_option linter.unusedVariables false
set_option maxRecDepth 8000
set_option maxHeartbeats 8000000
namespace Go.Proofs.YtlkfolopbehikaaGreat
open Go Go.Sx
theorem follows : Tryz.prog.follows .mixedOrders = true := by kernel_rfl
theorem dI {G : Ctx} {is : List IOp} {after : List (List Nat)} {r : Regs} {h : Heap} {n : Nat} {K : X -> Regs -> Heap -> Nat -> Prop} (hP : G.P = Tryz.prog)
  (he : evD (CallD G) (InvD G) (EscD G) is r h n [] fun T r h n => obl (CallD G) (InvD G) (EscD G) (ZJ0 is (masks after)) T.reverse h n (K .nrm r h n)) (hok : ZLi is after = true := by kernel_rfl) : DrawP G is after r h n K := ZK7 (by rw [hP]; exact follows) hok he
theorem mS {p q : Prop} (h : q) (t : q -> p := by
 first
  | exact fun h => aI h
  | exact fun h => a64 h
  | exact fun h => a32 h
  | exact fun h => dY h
  | exact fun h => dN h
  | exact fun h => ZAE h
  | exact fun h => dI (by assumption) h
  | exact fun h => oI h
  | exact fun h => qI h) : p := t h
def numE (h : Nat -> Int) : Nat -> List Value := fun i => [.int .i64 (h i)]
def badH (v : Int) : Bool := decide (v < 0) || decide (8 <= v)
def ZE3 (p : Int -> Bool) (h : Nat -> Int) : Nat -> Nat -> Int
 | _, 0 => -1
 | i, m + 1 => if p (h i) = true then (i : Int) else ZE3 p h (i + 1) m
def anyZ (p : Int -> Bool) (h : Nat -> Int) : Nat -> Bool
 | 0 => false
 | m + 1 => anyZ p h m || p (h m)
theorem ZHI (p : Int -> Bool) : ∀ (m : Nat) (g : Nat -> Int), anyZ p g (m + 1) = (p (g 0) || anyZ p (fun j => g (j + 1)) m)
 | 0, g => by simp [anyZ]
 | m + 1, g => by rw [anyZ, ZHI p m g, anyZ, Bool.or_assoc]
theorem ZH2 (p : Int -> Bool) (h : Nat -> Int) : ∀ m i, 0 <= ZE3 p h i m ↔ anyZ p (fun j => h (i + j)) m = true
 | 0, i => by simp [ZE3, anyZ]
 | m + 1, i => by
  rw [ZHI, ZE3]
  by_cases hp : p (h i) = true
  ·rw [if_pos hp]
   simp [hp]
  ·rw [if_neg hp, ZH2 p h m (i + 1)]
   have hp' : p (h i) = false := Bool.eq_false_iff.2 hp
   simp only [Nat.add_zero, hp', Bool.false_or]
   rw [show (fun j => h (i + 1 + j)) = fun j => h (i + (j + 1)) from funext fun j => by congr 1; omega]
theorem ZKS (f : FuncId) (p : Int -> Bool) (hf : ∀ v, ZAH Tryz.prog f [] 0 [.l (.v (.int .i64 v))] fun x h n => x = ZAb (p v) /\ n = 0 /\ h = []) (h : Nat -> Int) (m : Nat) (hm : m <= 1000000) :
  ZAH Tryz.prog 151 [(0, some (.ro 1 m (numE h)))] 1 [.l (.s 0 1 0 m 0), .l (.c f [])] fun x h' n => x = sInt .i64 (ZE3 p h 0 m) /\ n = 1 /\ h' = [] := by
 refine sE Tryz.func151 ic151_eq [.t 4] fun G hP hA => ?_
 unfold evF ic151
 conv => whnf
 refine ZAn (α := Nat) (ds := []) (N := 1) (fun i => [(8, sInt .i64 (i : Int))]) [] (fun _ => [])
  (fun i => i <= m /\ ZE3 p h 0 m = ZE3 p h i (m - i)) (fun i => m - i) 0 ⟨Nat.zero_le _, rfl⟩ ?_ fun i hi => ?_
 ·(conv => whnf); (refine ZAU hA ?_; conv => whnf); exact zI
 ·obtain ⟨hi0, hi1⟩ := hi
  have hni : nadd 0 ((i : Nat) : Int).toNat = i := by simp [ZAI]
  conv => whnf
  refine dsplit (fun h1 => ?_) (fun h1 => ?_)
  ·have hfi := hf (h i)
   have hst : ZE3 p h i (m - i) = if p (h i) = true then (i : Int) else ZE3 p h (i + 1) (m - (i + 1)) := by
    rw [show m - i = (m - (i + 1)) + 1 by omega]; rfl
   conv => whnf
   (repeat' ((first | refine aI ?_ | refine a64 ?_ | refine a32 ?_ | refine a8 ?_); conv => whnf))
   rw [hni]
   conv => whnf
   (refine ZAA hP (hfi) ?_; (conv => whnf); refine zA ?_; conv => whnf)
   refine bsplit (fun h2 => ?_) (fun h2 => ?_)
   ·conv => whnf
    (refine ZAC ?_; conv => whnf); refine ⟨rfl, rfl, rfl, ZBB ?_, ZAD, rfl⟩
    rw [hi1, hst, if_pos h2]
   ·conv => whnf
    (repeat' ((first | refine aI ?_ | refine a64 ?_ | refine a32 ?_ | refine a8 ?_); conv => whnf))
    refine ⟨i + 1, ⟨by omega, ?_⟩, by omega, ?_⟩
    ·rw [hi1, hst, if_neg (by rw [h2]; simp)]
    ·(conv => whnf); (refine ZAU hA ?_; conv => whnf); exact zI
  ·obtain rfl : i = m := by omega
   conv => whnf
   (refine ZAC ?_; conv => whnf); refine ⟨rfl, rfl, rfl, ZBB ?_, ZAD, rfl⟩
   rw [hi1, Nat.sub_self]
   rfl
theorem ZBP (f : FuncId) (p : Int -> Bool) (hf : ∀ v, ZAH Tryz.prog f [] 0 [.l (.v (.int .i64 v))] fun x h n => x = ZAb (p v) /\ n = 0 /\ h = []) (h : Nat -> Int) (m : Nat) (hm : m <= 1000000) :
  ZAH Tryz.prog 128 [(0, some (.ro 1 m (numE h)))] 1 [.l (.s 0 1 0 m 0), .l (.c f [])] fun x h' n => x = ZAb (anyZ p h m) /\ n = 1 /\ h' = [] := by
 have hi := ZKS f p hf h m hm
 have he := ZH2 p h m 0
 simp only [Nat.zero_add] at he
 refine sE Tryz.func128 ic128_eq [.t 4] fun G hP hA => ?_
 unfold evF ic128
 conv => whnf
 (refine ZAA hP (hi) ?_; (conv => whnf); refine zA ?_; conv => whnf)
 (refine ZAC ?_; conv => whnf); refine ⟨rfl, rfl, rfl, ZAr ?_, ZAD, rfl⟩
 rw [Bool.eq_iff_iff, decide_eq_true_iff]
 exact he
def ZFR (st dl : Nat -> Int) : Nat -> List Value := fun i => [.int .i64 (st i), .int .i64 (dl i)]
def ZBa (n : Nat) (st dl : Nat -> Int) (timed probed : Bool) : Heap := [(0, some (.st [.s 1 2 0 n 0, .v (.bool timed), .v (.bool probed)])), (1, some (.ar 2 n (ZFR st dl)))]
def ZBe (n : Nat) (st dl : Nat -> Int) (timed probed : Bool) : Ent := .ob [] (ZAs (ZBa n st dl timed probed) 2)
theorem ZCO (n : Nat) (a b : Bool) (hn : 1 <= n /\ n <= 64) : ZAH Tryz.prog 127 [] 0 [.l (.v (.int .i64 n)), .l (.v (.bool a)), .l (.v (.bool b))] fun x h k =>
  x = .t [.l (.p 0 0 0 0), .l (.v (.int .i64 0))] /\ k = 1 /\ h = [(0, some (ZBe n (fun _ => 0) (fun _ => -1) a b))] := by
 refine sE Tryz.func127 ic127_eq [.t 6, .t 7] fun G hP hA => ?_
 unfold evF ic127
 conv => whnf
 refine dsplit (fun h1 => absurd h1 (by omega)) (fun h1 => ?_)
 conv => whnf
 refine dsplit (fun h2 => absurd h2 (by omega)) (fun h2 => ?_)
 conv => whnf
 (repeat' ((first | refine aI ?_ | refine a64 ?_ | refine a32 ?_ | refine a8 ?_); conv => whnf))
 refine ZAn (α := Nat) (ds := []) (N := 2) (fun i => [(27, sInt .i64 (i : Int))]) [] (fun i => [(0, some (.ar 2 n (ZFR (fun _ => 0) fun j => if j < i then -1 else 0)))])
  (fun i => i <= n) (fun i => n - i) 0 (Nat.zero_le _) ?_ fun i hi => ?_
 ·(conv => whnf); (refine ZAU hA ?_; conv => whnf); exact zI
 ·have hni : nadd 0 ((i : Nat) : Int).toNat = i := by simp [ZAI]
  conv => whnf
  refine dsplit (fun h3 => ?_) (fun h3 => ?_)
  ·replace h3 : (i : Int) < (n : Int) := h3
   conv => whnf
   (repeat' ((first | refine aI ?_ | refine a64 ?_ | refine a32 ?_ | refine a8 ?_); conv => whnf))
   rw [hni]
   refine ⟨i + 1, by omega, by omega, ?_⟩
   (conv => whnf); (refine ZAU hA ?_; conv => whnf); refine ⟨rfl, rfl, rfl, ZAe, ?_, rfl⟩
   refine And.intro (And.intro rfl (And.intro rfl fun j hj => ?_)) ZAD
   by_cases hji : j = i
   ·subst hji
    simp only [mrgL, ZBJ, if_true, ZAL, setL, ZFR, Nat.lt_succ_self]
   ·have e1 : (j < i + 1) ↔ (j < i) := by omega
    simp only [mrgL, ZBJ, if_neg hji, ZAL, setL, ZFR, e1]
  ·replace h3 : ¬ (i : Int) < (n : Int) := h3
   obtain rfl : i = n := by omega
   conv => whnf
   (refine ZAG (H := ZBa i (fun _ => 0) (fun _ => -1) a b) (np := 2) 1 0 (Nat.le_of_ble_eq_true rfl) ?_; conv => whnf); (refine ⟨⟨rfl, by omega, rfl, rfl, ?_, rfl⟩, ?_⟩)
   ·refine ⟨rfl, ⟨rfl, rfl, fun j hj => ?_⟩, trivial⟩
    simp only [ZFR, if_pos hj]
   (refine ZAC ?_; conv => whnf); exact zF
def ZCj (w : Nat -> Int) : Nat -> List Value := fun i => [.int .u32 (w i)]
def ZKT (th : Int) (m : Nat) (hs ws : Nat -> Int) : Heap := [(0, some (.st [.v (.int .i64 th), .s 1 1 0 m 0, .s 2 1 0 m 0])), (1, some (.ar 1 m (numE hs))), (2, some (.ar 1 m (ZCj ws)))]
def ZBI (th : Int) (m : Nat) (hs ws : Nat -> Int) : Ent := .ob [] (ZAs (ZKT th m hs ws) 3)
theorem ZBf (th : Int) (hs ws : Nat -> Int) : ZAH Tryz.prog 63 [] 0 [.l (.v (.int .i64 th))] fun x h n => x = .o (.l (.p 0 0 0 0)) /\ n = 1 /\ h = [(0, some (ZBI th 0 hs ws))] := by
 refine sE Tryz.func63 ic63_eq [.t 2] fun G hP hA => ?_
 unfold evF ic63
 conv => whnf
 refine ZBF (ZAV.nilc 0 1 1 (numE hs) rfl rfl) (Nat.zero_le _) ?_
 refine ZBF (ZAV.nilc 0 2 1 (ZCj ws) rfl rfl) (Nat.zero_le _) ?_
 (refine ZAG (H := ZKT th 0 hs ws) (np := 3) 0 0 (Nat.le_of_ble_eq_true rfl) ?_; conv => whnf); (refine zK ?_)
 (refine ZAC ?_; conv => whnf); exact zF
def ZA0 (f : Nat -> Int) (m : Nat) (v : Int) : Nat -> Int := fun i => if i < m then f i else v
theorem ZJA (f : Nat -> Int) (m : Nat) (v : Int) (q : Nat) {g : Int -> List Value} : ∀ j, j < m + (q + 1) -> (if j < m + q then g (ZA0 f m v j) else g v) = g (ZA0 f m v j) := fun j hj => by
 by_cases h : j < m + q
 ·rw [if_pos h]
 ·rw [if_neg h]; unfold ZA0; rw [if_neg (by omega)]
theorem ZH3 (th : Int) (m : Nat) (hs ws : Nat -> Int) (n home v : Int) (q : Nat) (hq : (q : Int) = min (max n 0) 4097) (hm : m <= 1000000) :
  ZAH Tryz.prog 136 [(0, some (ZBI th m hs ws))] 1 [.l (.p 0 0 0 0), .l (.v (.int .i64 n)), .l (.v (.int .i64 home)), .l (.v (.int .u32 v))] fun x h k =>
   x = sInt .i64 (m : Int) /\ k = 1 /\ h = [(0, some (ZBI th (m + q) (ZA0 hs m home) (ZA0 ws m v)))] := by
 refine sG (ZAf (ZKT th m hs ws) 3 0 (by omega)) Tryz.func136 ic136_eq [.t 8] fun G hP hA => ?_
 unfold evF ic136
 have h0 : q <= 4097 := by omega
 conv => whnf
 rw [<- hq]
 refine ZAn (α := Nat) (ds := []) (N := 5) (fun i => [(18, sInt .i64 (i : Int))]) []
  (fun i => [(1, none), (2, none), (0, some (.st [.v (.int .i64 th), .s 3 1 0 (m + i) 0, .s 4 1 0 (m + i) 0])), (3, some (.ar 1 (m + i) (numE (ZA0 hs m home)))), (4, some (.ar 1 (m + i) (ZCj (ZA0 ws m v))))])
  (fun i => i <= q) (fun i => q - i) 0 (Nat.zero_le _) ?_ fun i hi => ?_
 ·(conv => whnf); (refine ZAU hA ?_; conv => whnf); refine ⟨rfl, rfl, rfl, ZAe, ?_, rfl⟩
  refine ⟨rfl, ⟨rfl, rfl, fun j hj => ?_⟩, ⟨rfl, rfl, fun j hj => ?_⟩, trivial⟩
  ·simp only [numE, ZA0, if_pos (show j < m from hj)]
  ·simp only [ZCj, ZA0, if_pos (show j < m from hj)]
 ·conv => whnf
  refine dsplit (fun h1 => ?_) (fun h1 => ?_)
  ·replace h1 : (i : Int) < (q : Int) := h1
   conv => whnf
   (repeat' ((first | refine aI ?_ | refine a64 ?_ | refine a32 ?_ | refine a8 ?_); conv => whnf))
   refine ⟨i + 1, by omega, by omega, ?_⟩
   (conv => whnf); (refine ZAU hA ?_; conv => whnf); refine ⟨rfl, rfl, rfl, ZAe, ?_, rfl⟩
   refine ⟨rfl, ⟨rfl, rfl, fun j hj => ?_⟩, ⟨rfl, rfl, fun j hj => ?_⟩, trivial⟩
   ·exact ZJA hs m home i (g := fun v => [.int .i64 v]) j hj
   ·exact ZJA ws m v i (g := fun v => [.int .u32 v]) j hj
  ·replace h1 : ¬ (i : Int) < (q : Int) := h1
   obtain rfl : i = q := by omega
   conv => whnf
   (refine ZAG (H := (ZKT th (m + i) (ZA0 hs m home) (ZA0 ws m v))) (np := 3) 0 0 (Nat.le_of_ble_eq_true rfl) ?_; conv => whnf); (refine zK ?_)
   (refine ZAC ?_; conv => whnf); exact zF
theorem ZBG (th : Int) (m : Nat) (hs ws : Nat -> Int) (home v : Int) (hm : m <= 1000000) :
  ZAH Tryz.prog 130 [(0, some (ZBI th m hs ws))] 1 [.l (.p 0 0 0 0), .l (.v (.int .i64 home)), .l (.v (.int .u32 v))] fun x h k =>
   x = sInt .i64 (m : Int) /\ k = 1 /\ h = [(0, some (ZBI th (m + 1) (ZA0 hs m home) (ZA0 ws m v)))] := by
 have hr := ZH3 th m hs ws 1 home v 1 (by omega) hm
 refine sE Tryz.func130 ic130_eq [.t 6] fun G hP hA => ?_
 unfold evF ic130
 conv => whnf
 (refine ZAA hP (hr) ?_; (conv => whnf); refine zA ?_; conv => whnf)
 (refine ZAC ?_; conv => whnf); exact zF
theorem ZKU (v : Int) : ZAH Tryz.prog 134 [] 0 [.l (.v (.int .i64 v))] fun x h n => x = ZAb (badH v) /\ n = 0 /\ h = [] := by
 refine sE Tryz.func134 ic134_eq [.t 2] fun G hP hA => ?_
 unfold evF ic134
 conv => whnf
 (repeat' (first | (refine ZAE ?_; conv => whnf) | (refine dsplit (fun _ => ?_) (fun _ => ?_) <;> conv => whnf)))
 all_goals (((refine ZAC ?_; conv => whnf); refine ⟨rfl, rfl, rfl, ZAr ?_, ZAD, rfl⟩); unfold badH; rw [Bool.eq_iff_iff]; simp; omega)
def clhE (no ah sp : Nat -> Int) : Nat -> List Value := fun i => [.int .i64 (no i), .int .i64 (ah i), .int .i64 (sp i)]
def ZOl (n : Nat) (tail : Int) (st dl no ah sp : Nat -> Int) : Heap := [(0, some (.st [.p 1 0 0 0, .v (.pointer none), .v (.int .i64 tail), .s 2 3 0 n 0])), (1, some (ZBe n st dl false true)), (2, some (.ar 3 n (clhE no ah sp)))]
def ZOm (n : Nat) (tail : Int) (st dl no ah sp : Nat -> Int) : Ent := .ob [] (ZAs (ZOl n tail st dl no ah sp) 3)
def ZBQ (f : Nat -> Int) (m : Nat) (h : Nat -> Int) : Nat -> Nat -> Int
 | 0 => f
 | i + 1 => ZA0 (ZBQ f m h i) (m + i) (h i)
def ZH4 (hs : Nat -> Int) (m : Nat) (h : Nat -> Int) : Nat -> Nat -> Int := ZBQ (ZA0 (ZA0 hs m (h 0)) (m + 1) (h 0)) (m + 2) h
def ZJB (ws : Nat -> Int) (m : Nat) : Nat -> Nat -> Int := ZBQ (ZA0 (ZA0 ws m 0) (m + 1) 0) (m + 2) fun _ => 0
theorem ZJC (th : Int) (M : Nat) (hs ws h : Nat -> Int) (m : Nat) (hM : M <= 10000) (hm : 1 <= m /\ m <= 64) (hb : anyZ badH h m = false) :
  ZAH Tryz.prog 107 [(0, some (ZBI th M hs ws)), (1, some (.ro 1 m (numE h)))] 2 [.l (.p 0 0 0 0), .l (.s 1 1 0 m 0)] fun x h' k =>
   x = .t [.l (.p 2 0 0 0), .l (.v (.int .i64 0))] /\ k = 3 /\ h' = [(0, some (ZBI th (M + 2 + m) (ZH4 hs M h m) (ZJB ws M m))), (2, some (ZOm m M (fun _ => 0) (fun _ => -1) (fun i => i + 1) (fun _ => 0) fun _ => 0))] := by
 have hse := ZCO m false true (by omega)
 have hcf := ZBP 134 badH ZKU h m (by omega)
 rw [hb] at hcf
 have hw1 := ZBG th M hs ws (h 0) 0 (by omega)
 have hw2 := ZBG th (M + 1) (ZA0 hs M (h 0)) (ZA0 ws M 0) (h 0) 0 (by omega)
 refine sE Tryz.func107 ic107_eq [.t 4, .t 5] fun G hP hA => ?_
 unfold evF ic107
 conv => whnf
 (refine ZAA hP (hse) ?_; (conv => whnf); refine zA ?_; conv => whnf)
 (refine ZAA hP (hcf) ?_; (conv => whnf); refine zA ?_; conv => whnf)
 (repeat' ((first | refine aI ?_ | refine a64 ?_ | refine a32 ?_ | refine a8 ?_); conv => whnf))
 (refine ZAA hP (hw1) ?_; (conv => whnf); refine zA ?_; conv => whnf)
 (repeat' ((first | refine aI ?_ | refine a64 ?_ | refine a32 ?_ | refine a8 ?_); conv => whnf))
 (refine ZAA hP (hw2) ?_; (conv => whnf); refine zA ?_; conv => whnf)
 refine ZAn (α := Nat) (ds := []) (N := 5) (fun i => [(38, sInt .i64 (i : Int))]) []
  (fun i => [(0, some (ZBI th (M + 2 + i) (ZH4 hs M h i) (ZJB ws M i))), (3, some (.st [.p 2 0 0 0, .v (.pointer none), .v (.int .i64 M), .s 4 3 0 i 0])), (4, some (.ar 3 i (clhE (fun i => i + 1) (fun _ => 0) fun _ => 0)))])
  (fun i => i <= m) (fun i => m - i) 0 (Nat.zero_le _) ?_ fun i hi => ?_
 ·conv => whnf
  refine Imp.trans (ZAj (ZAV.nilc 3 3 3 (clhE (fun i => i + 1) (fun _ => 0) fun _ => 0) rfl rfl)) ?_
  (conv => whnf); (refine ZAU hA ?_; conv => whnf); exact zI
 ·have hni : nadd 0 ((i : Nat) : Int).toNat = i := by simp [ZAI]
  have hwi := ZBG th (M + 2 + i) (ZH4 hs M h i) (ZJB ws M i) (h i) 0 (by omega)
  conv => whnf
  refine dsplit (fun h1 => ?_) (fun h1 => ?_)
  ·conv => whnf
   (repeat' ((first | refine aI ?_ | refine a64 ?_ | refine a32 ?_ | refine a8 ?_); conv => whnf))
   rw [hni]
   conv => whnf
   (refine ZAA hP (hwi) ?_; (conv => whnf); refine zA ?_; conv => whnf)
   (repeat' ((first | refine aI ?_ | refine a64 ?_ | refine a32 ?_ | refine a8 ?_); conv => whnf))
   refine ⟨i + 1, by omega, by omega, ?_⟩
   (conv => whnf); (refine ZAU hA ?_; conv => whnf); refine ⟨rfl, rfl, rfl, ZAe, ?_, rfl⟩
   refine ⟨ZAD, rfl, ⟨rfl, rfl, fun j hj => ?_⟩, ZAD⟩
   refine ZAx (f := clhE (fun i => i + 1) (fun _ => 0) fun _ => 0) (i := i) rfl j hj
  ·obtain rfl : i = m := by omega
   conv => whnf
   (refine ZAG (H := (ZOl i M (fun _ => 0) (fun _ => -1) (fun i => i + 1) (fun _ => 0) fun _ => 0)) (np := 3) 3 0 (Nat.le_of_ble_eq_true rfl) ?_; conv => whnf); (refine zK ?_)
   (refine ZAC ?_; conv => whnf); exact zF
theorem ZOn : ExtA Tryz.prog 174 Extern.Atomic.storeT := ⟨_, Tryz.func174, by kernel_rfl, by kernel_rfl, by kernel_rfl, by kernel_rfl⟩
def memH (n : Nat) (ws hs : Nat -> Int) : Heap := [(0, some (.st [.s 1 1 0 n 0, .s 2 1 0 n 0])), (1, some (.ar 1 n (ZCj ws))), (2, some (.ar 1 n (numE hs)))]
def memP (n : Nat) (ws hs : Nat -> Int) : Ent := .ob [] (ZAs (memH n ws hs) 3)
def updF (f : Nat -> Int) (i : Nat) (v : Int) : Nat -> Int := fun j => if j = i then v else f j
theorem updE (f : Nat -> Int) (i : Nat) (v : Int) (j : Nat) : mrgL (j = i) (ZAL (ZCj f j) 0 [.int .u32 v]) (ZCj f j) = ZCj (updF f i v) j := by
 simp only [ZCj, updF, ZAL, setL, mrgL, ZBJ]
 by_cases h : j = i <;> simp [h]
theorem ZKV (n i : Nat) (ws : Nat -> Int) (v : Int) (hi : i < n) :
  ZAH Tryz.prog 161 [(0, some (.ar 1 n (ZCj ws)))] 1 [.l (.p 0 1 i 0), .l (.v (.int .u32 v))] fun x h k => x = .t [] /\ k = 1 /\ h = [(0, some (.ar 1 n (ZCj (updF ws i v))))] := by
 refine sE Tryz.func161 ic161_eq [] fun G hP hA => ?_
 unfold evF ic161
 conv => whnf
 refine ZMV (q := .u32) (hP ▸ ZOn) rfl rfl rfl hi (by omega) ⟨_, rfl⟩ ?_
 conv => whnf
 refine ⟨hi, ?_⟩
 conv => whnf
 (refine ZAC ?_; conv => whnf); refine ⟨rfl, rfl, rfl, ?_, ?_, rfl⟩
 ·rfl
 ·refine ⟨⟨rfl, rfl, fun j hj => updE ws i v j⟩, trivial⟩
theorem ZGO (f : Nat -> List Value) (m : Nat) (hm : m <= 1000000) :
  ZAH Tryz.prog 159 [(0, some (.ro 1 m f))] 1 [.l (.s 0 1 0 m 0)] fun x h n => x = .o (.l (.s 1 1 0 m 0)) /\ n = 2 /\ h = [(1, some (.ar 1 m f))] := by
 refine ZAH.nil_ret (Q := fun x h n => (x = .o (.l (.s 1 1 0 m 0)) /\ n = 2 /\ h = [(1, some (.ar 1 m f))]) \/ (m = 0 /\ x = .o (.l (.v (.slice none 0 0))) /\ n = 1 /\ h = [])) ?_ ?_
 ·refine sE Tryz.func159 ic159_eq [.t 2] fun G hP hA => ?_
  unfold evF ic159
  conv => whnf
  refine ZJ5 (el := 3) (by rw [hP]; kernel_rfl) rfl fun b hb => ?_
  conv => whnf
  refine bsplit (fun h => ?_) (fun h => ?_)
  ·conv => whnf
   exact ZCs [0] (.o (.l (.v (.slice none 0 0)))) [] 1 rfl (.inr ⟨hb h, rfl, rfl, rfl⟩) rfl rfl rfl trivial rfl
  ·conv => whnf
   (repeat' ((first | refine aI ?_ | refine a64 ?_ | refine a32 ?_ | refine a8 ?_); conv => whnf))
   refine ZCs [0, 2] (.o (.l (.s 1 1 0 m 0))) [(1, some (.ar 1 m f))] 2 rfl (.inl ⟨rfl, rfl, rfl⟩) rfl rfl ?_ ?_ rfl
   ·show SV.o (.l (.s 2 1 0 (0 + m) 0)) = _
    rw [Nat.zero_add]; rfl
   ·refine ⟨?_, trivial⟩
    show ZCY _ (.ar 1 (0 + m) _) _
    refine ⟨rfl, Nat.zero_add m, fun i hi => ?_⟩
    simp [ZAI]
 ·intro x h n hx
  rcases hx with ⟨rfl, rfl, rfl⟩ | ⟨rfl, rfl, rfl, rfl⟩
  ·exact .inl ⟨rfl, rfl, rfl⟩
  ·exact .inr ⟨1, f, _, fun ρ h => ZPY ρ h, fun ρ D hD h _ => ZPZ ρ D hD h, rfl, rfl, rfl⟩
theorem ZEC (n i : Nat) (ws hs : Nat -> Int) (hi : i < n) (hn : n <= 1000000) :
  ZAH Tryz.prog 160 (memH n ws hs) 3 [.l (.p 0 0 0 0), .l (.v (.int .i64 i))] fun x h k => x = .o (.l (.p 1 1 i 0)) /\ k = 3 /\ h = memH n ws hs := by
 refine sE Tryz.func160 ic160_eq [.t 4] fun G hP hA => ?_
 unfold evF ic160
 have hni : nadd 0 ((i : Nat) : Int).toNat = i := by simp [ZAI]
 conv => whnf
 (repeat' (first | (refine ZAE ?_; conv => whnf) | (refine dsplit (fun _ => ?_) (fun _ => ?_) <;> conv => whnf)))
 all_goals first | (exfalso; omega) | skip
 (repeat' ((first | refine aI ?_ | refine a64 ?_ | refine a32 ?_ | refine a8 ?_); conv => whnf))
 rw [hni]
 (refine ZAC ?_; conv => whnf); exact zF
theorem ZGP (n i : Nat) (ws hs : Nat -> Int) (v : Int) (hi : i < n) (hn : n <= 1000000) :
  ZAH Tryz.prog 145 [(0, some (memP n ws hs))] 1 [.l (.p 0 0 0 0), .l (.v (.int .i64 i)), .l (.v (.int .u32 v))] fun x h k => x = .t [] /\ k = 1 /\ h = [(0, some (memP n (updF ws i v) hs))] := by
 have ha := ZEC n i ws hs hi hn
 have hs' := ZKV n i ws v hi
 refine sG (ZAf (memH n ws hs) 3 0 (by omega)) Tryz.func145 ic145_eq [] fun G hP hA => ?_
 unfold evF ic145
 conv => whnf
 (refine ZAA hP (ha) ?_; (conv => whnf); refine zA ?_; conv => whnf)
 (refine ZAA hP (hs') ?_; (conv => whnf); refine zA ?_; conv => whnf)
 (refine ZAG (H := (memH n (updF ws i v) hs)) (np := 3) 0 0 (Nat.le_of_ble_eq_true rfl) ?_; conv => whnf); (refine zK ?_)
 (refine ZAC ?_; conv => whnf); exact zF
theorem ZFu {p : Int -> Bool} {h : Nat -> Int} : ∀ {m i : Nat}, i < m -> p (h i) = true -> anyZ p h m = true
 | m + 1, i, hi, hp => by
  simp only [anyZ, Bool.or_eq_true]
  by_cases e : i = m
  ·subst e; exact .inr hp
  ·exact .inl (ZFu (by omega) hp)
theorem ZNc (hs : Nat -> Int) (m : Nat) (hm : m <= 4096) (hb : anyZ badH hs m = false) : ZAH Tryz.prog 144 [(0, some (.ro 1 m (numE hs)))] 1 [.l (.s 0 1 0 m 0)] fun x h k =>
  x = .t [.l (.p 1 0 0 0), .l (.v (.int .i64 0))] /\ k = 2 /\ h = [(1, some (memP m (fun _ => 0) hs))] := by
 have hcl := ZGO (numE hs) m (by omega)
 refine sE Tryz.func144 ic144_eq [.t 2, .t 3] fun G hP hA => ?_
 unfold evF ic144
 conv => whnf
 refine dsplit (fun h1 => absurd h1 (by omega)) (fun h1 => ?_)
 conv => whnf
 refine ZAn (α := Nat) (ds := []) (N := 1) (fun i => [(11, sInt .i64 (i : Int))]) [] (fun _ => []) (fun i => i <= m) (fun i => m - i) 0 (Nat.zero_le _) ?_ fun i hi => ?_
 ·(conv => whnf); (refine ZAU hA ?_; conv => whnf); exact zI
 ·have hni : nadd 0 ((i : Nat) : Int).toNat = i := by simp [ZAI]
  conv => whnf
  refine dsplit (fun h2 => ?_) (fun h2 => ?_)
  ·have hbi : ¬ badH (hs i) = true := fun h => by rw [ZFu (show i < m by omega) h] at hb; cases hb
   simp only [badH, Bool.or_eq_true, decide_eq_true_eq] at hbi
   conv => whnf
   (repeat' ((first | refine aI ?_ | refine a64 ?_ | refine a32 ?_ | refine a8 ?_); conv => whnf))
   rw [hni]
   conv => whnf
   (repeat' (first | (refine ZAE ?_; conv => whnf) | (refine dsplit (fun _ => ?_) (fun _ => ?_) <;> conv => whnf)))
   all_goals first | (exfalso; omega) | skip
   (repeat' ((first | refine aI ?_ | refine a64 ?_ | refine a32 ?_ | refine a8 ?_); conv => whnf))
   refine ⟨i + 1, by omega, by omega, ?_⟩
   (conv => whnf); (refine ZAU hA ?_; conv => whnf); exact zI
  ·obtain rfl : i = m := by omega
   conv => whnf
   refine ZJq (by rw [hP]; exact follows) 20 ?_
   conv => whnf
   repeat' (first | (refine And.intro (by omega) ?_; conv => whnf) | (refine And.intro ?_ ?_ <;> (conv => whnf)) | (refine ZAA hP (hcl) ?_; (conv => whnf); refine zA ?_; conv => whnf))
   all_goals (refine ZAG (H := (memH i (fun _ => 0) hs)) (np := 3) 3 0 (Nat.le_of_ble_eq_true rfl) ?_; conv => whnf); (refine zK ?_)
   all_goals (refine ZAC ?_; conv => whnf); exact zF
def ZNd (c : Nat -> Int) : Nat -> List Value := fun i => [.int .u64 (c i)]
def ZE4 (a b : Nat -> Int) : Nat -> List Value := fun i => [.int .i64 (a i), .int .i64 (b i)]
def ZEQ (nw nt : Nat) (cp ms : Nat -> Int) : Heap := [(0, some (.st [.s 1 1 0 nw 0, .s 2 1 0 nt 0])), (1, some (.ar 1 nw (ZNd cp))), (2, some (.ar 1 nt (numE ms)))]
def ZHJ (nw nt : Nat) (cp ms : Nat -> Int) : Ent := .ob [] (ZAs (ZEQ nw nt cp ms) 3)
theorem ZKW (nt nw : Nat) (h1 : 1 <= nt /\ nt <= 64) (h2 : nw <= 4096) : ZAH Tryz.prog 146 [] 0 [.l (.v (.int .i64 nt)), .l (.v (.int .i64 nw))] fun x h k =>
  x = .t [.l (.p 0 0 0 0), .l (.v (.int .i64 0))] /\ k = 1 /\ h = [(0, some (ZHJ nw nt (fun _ => 0) fun _ => 0))] := by
 refine sE Tryz.func146 ic146_eq [.t 4, .t 5] fun G hP hA => ?_
 unfold evF ic146
 conv => whnf
 (repeat' (first | (refine ZAE ?_; conv => whnf) | (refine dsplit (fun _ => ?_) (fun _ => ?_) <;> conv => whnf)))
 all_goals first | (exfalso; omega) | skip
 refine ZJq (by rw [hP]; exact follows) 20 ?_
 conv => whnf
 repeat' (first | (refine And.intro (by omega) ?_; conv => whnf) | (refine And.intro ?_ ?_ <;> (conv => whnf)))
 all_goals (refine ZAG (H := (ZEQ nw nt (fun _ => 0) (fun _ => 0))) (np := 3) 2 0 (Nat.le_of_ble_eq_true rfl) ?_; conv => whnf); (refine zK ?_)
 all_goals (refine ZAC ?_; conv => whnf); exact zF
def ZBp (nt nw : Nat) (ws hs cp ms ac wr : Nat -> Int) : Heap := [(0, some (.st [.p 1 0 0 0, .p 2 0 0 0, .s 3 2 0 nt 0])), (1, some (memP nw ws hs)), (2, some (ZHJ nw nt cp ms)), (3, some (.ar 2 nt (ZE4 ac wr)))]
def ZBg (nt nw : Nat) (ws hs cp ms ac wr : Nat -> Int) : Ent := .ob [] (ZAs (ZBp nt nw ws hs cp ms ac wr) 4)
def cutF (f : Nat -> Int) (i : Nat) : Nat -> Int := fun j => if j < i then f j else 0
theorem ZOo (f : Nat -> Int) (i : Nat) : updF (cutF f i) i (f i) = cutF f (i + 1) := by
 funext j
 unfold updF cutF
 by_cases h : j = i
 ·subst h; simp
 ·rw [if_neg h]
  by_cases h2 : j < i
  ·rw [if_pos h2, if_pos (by omega)]
  ·rw [if_neg h2, if_neg (by omega)]
theorem ZL6 (nt m : Nat) (hs ws : Nat -> Int) (h1 : 1 <= nt /\ nt <= 64) (hm : m <= 4096) (hb : anyZ badH hs m = false) :
  ZAH Tryz.prog 112 [(0, some (.ro 1 m (numE hs))), (1, some (.ro 1 m (ZCj ws)))] 2 [.l (.v (.int .i64 nt)), .l (.s 0 1 0 m 0), .l (.s 1 1 0 m 0)] fun x h k =>
   x = .t [.l (.p 2 0 0 0), .l (.v (.int .i64 0))] /\ k = 3 /\ h = [(2, some (ZBg nt m (cutF ws m) hs (fun _ => 0) (fun _ => 0) (fun _ => 0) fun _ => 0))] := by
 have hmn := ZNc hs m hm hb
 rw [show (fun _ => 0 : Nat -> Int) = cutF ws 0 from funext fun j => by simp [cutF]] at hmn
 have hcn := ZKW nt m h1 hm
 refine sE Tryz.func112 ic112_eq [.t 6, .t 7] fun G hP hA => ?_
 unfold evF ic112
 conv => whnf
 (repeat' (first | (refine ZAE ?_; conv => whnf) | (refine dsplit (fun _ => ?_) (fun _ => ?_) <;> conv => whnf)))
 all_goals first | (exfalso; omega) | skip
 (refine ZAA hP (hmn) ?_; (conv => whnf); refine zA ?_; conv => whnf)
 refine ZAn (α := Nat) (ds := []) (N := 3) (fun i => [(37, sInt .i64 (i : Int))]) [] (fun i => [(2, some (memP m (cutF ws i) hs))]) (fun i => i <= m) (fun i => m - i) 0 (Nat.zero_le _) ?_ fun i hi => ?_
 ·(conv => whnf); (refine ZAU hA ?_; conv => whnf); exact zI
 ·have hni : nadd 0 ((i : Nat) : Int).toNat = i := by simp [ZAI]
  conv => whnf
  refine dsplit (fun h2 => ?_) (fun h2 => ?_)
  ·have hst := ZGP m i (cutF ws i) hs (ws i) (by omega) (by omega)
   conv => whnf
   (repeat' ((first | refine aI ?_ | refine a64 ?_ | refine a32 ?_ | refine a8 ?_); conv => whnf))
   rw [hni]
   conv => whnf
   (refine ZAA hP (hst) ?_; (conv => whnf); refine zA ?_; conv => whnf)
   (repeat' ((first | refine aI ?_ | refine a64 ?_ | refine a32 ?_ | refine a8 ?_); conv => whnf))
   refine ⟨i + 1, by omega, by omega, ?_⟩
   rw [ZOo]
   (conv => whnf); (refine ZAU hA ?_; conv => whnf); exact zI
  ·obtain rfl : i = m := by omega
   conv => whnf
   (refine ZAA hP (hcn) ?_; (conv => whnf); refine zA ?_; conv => whnf)
   (repeat' ((first | refine aI ?_ | refine a64 ?_ | refine a32 ?_ | refine a8 ?_); conv => whnf))
   (refine ZAG (H := (ZBp nt i (cutF ws i) hs (fun _ => 0) (fun _ => 0) (fun _ => 0) fun _ => 0)) (np := 4) 5 0 (Nat.le_of_ble_eq_true rfl) ?_; conv => whnf); (refine zK ?_)
   (refine ZAC ?_; conv => whnf); exact zF
theorem ZBy (nt m : Nat) (hs ws : Nat -> Int) (h1 : 1 <= nt /\ nt <= 64) (hm : m <= 4096) (hb : anyZ badH hs m = false) :
  ZAH Tryz.prog 65 [(0, some (ZBI nt m hs ws))] 1 [.l (.p 0 0 0 0)] fun x h k =>
   x = .t [.l (.p 1 0 0 0), .l (.v (.int .i64 0))] /\ k = 2 /\ h = [(1, some (ZBg nt m (cutF ws m) hs (fun _ => 0) (fun _ => 0) (fun _ => 0) fun _ => 0))] := by
 have hpn := ZL6 nt m hs ws h1 hm hb
 refine sG (ZAf (ZKT nt m hs ws) 3 0 (by omega)) Tryz.func65 ic65_eq [.t 2, .t 3] fun G hP hA => ?_
 unfold evF ic65
 conv => whnf
 (refine dI hP ?_; conv => whnf)
 (refine ZAB hP (hpn) ?_; (conv => whnf); refine zA ?_; conv => whnf)
 (repeat (refine oI ?_; conv => whnf))
 conv => whnf
 (refine ZAC ?_; conv => whnf); exact zF
def ZDY (n : Nat) (tail : Int) (st dl no ah sp : Nat -> Int) : Heap := [(0, some (.st [.p 2 0 0 0, .p 1 0 0 0, .v (.int .i64 tail), .s 3 3 0 n 0])), (2, some (ZBe n st dl false true)), (3, some (.ar 3 n (clhE no ah sp)))]
theorem ZGQ (n : Nat) (tail : Int) (st dl no ah sp : Nat -> Int) :
  ZAH Tryz.prog 236 [(0, some (ZOm n tail st dl no ah sp))] 2 [.l (.p 0 0 0 0), .l (.p 1 0 0 0)] fun x h k =>
   x = .t [] /\ k = 2 /\ h = [(0, some (ZEN (ZDY n tail st dl no ah sp) 4 1))] := by
 refine sG (ZAd 0 (h := [(0, some (ZOm n tail st dl no ah sp))]) (n := 2) (ks := []) (H := ZOl n tail st dl no ah sp) (np := 3) rfl (by decide) rfl rfl rfl) Tryz.func236 ic236_eq [] fun G hP hA => ?_
 unfold evF ic236
 conv => whnf
 (refine ZAG (H := (ZDY n tail st dl no ah sp)) (np := 4) 0 1 (Nat.le_of_ble_eq_true rfl) ?_; conv => whnf); (refine zK ?_)
 (refine ZAC ?_; conv => whnf); exact zF
theorem ZHK (v : Value) (args : Array Value) (w : World) : (callMethod (.iface 227 v) "Use" args).run Tryz.prog w = .ok (.enter 236 (#[v] ++ args)) w := by kernel_rfl
def ZB8 (kind : Int) (k m : Nat) (start slots pool budget glob loc : Int) : AV := .a [.v (.int .i64 kind), .s k 1 0 m 0, .v (.int .u32 start), .v (.int .i64 slots), .v (.int .i64 pool), .v (.int .i64 budget), .v (.int .i64 glob), .v (.int .i64 loc)]
theorem ZAy {p : Int -> Bool} {f : Nat -> Int} : ∀ {n : Nat}, anyZ p f n = false ↔ ∀ i, i < n -> p (f i) = false
 | 0 => ⟨fun _ i hi => absurd hi (Nat.not_lt_zero i), fun _ => rfl⟩
 | n + 1 => by
  rw [anyZ, Bool.or_eq_false_iff, ZAy]
  constructor
  ·rintro ⟨h1, h2⟩ i hi
   rcases Nat.lt_succ_iff_lt_or_eq.1 hi with h | rfl
   ·exact h1 i h
   ·exact h2
  ·exact fun h => ⟨fun i hi => h i (by omega), h n (by omega)⟩
theorem ZBT {Q : Int -> Prop} {f : Nat -> Int} {m : Nat} {v : Int} (h : ∀ j, j < m -> Q (f j)) (hv : Q v) (j : Nat) : Q (ZA0 f m v j) := by
 unfold ZA0
 by_cases hj : j < m
 ·rw [if_pos hj]; exact h j hj
 ·rw [if_neg hj]; exact hv
theorem ZDe {Q : Int -> Prop} {f h : Nat -> Int} {m : Nat} (hf : ∀ j, j < m -> Q (f j)) : ∀ i, (∀ j, j < i -> Q (h j)) -> ∀ j, j < m + i -> Q (ZBQ f m h i j)
 | 0, _, j, hj => hf j hj
 | i + 1, hh, j, _ => ZBT (ZDe hf i fun j hj => hh j (by omega)) (hh i (by omega)) j
theorem ZL7 {hs h : Nat -> Int} {m : Nat} (hm : 1 <= m) (hb : anyZ badH h m = false) : anyZ badH (ZH4 hs 0 h m) (2 + m) = false := by
 have h0 := ZAy.1 hb
 refine ZAy.2 (ZDe (Q := fun x => badH x = false) (m := 2) (fun j hj => ?_) m h0)
 exact ZBT (Q := fun x => badH x = false) (fun j hj => ZBT (Q := fun x => badH x = false) (fun j hj => absurd hj (Nat.not_lt_zero _)) (h0 0 hm) j) (h0 0 hm) j
theorem ZPh (th : Int) (hs ws h : Nat -> Int) (m : Nat) (start slots pool budget glob loc : Int) (hm : 1 <= m /\ m <= 64) (hb : anyZ badH h m = false) :
  ZAH Tryz.prog 64 [(0, some (ZBI th 0 hs ws)), (1, some (.ro 1 m (numE h)))] 2 [.l (.p 0 0 0 0), ZB8 3 1 m start slots pool budget glob loc] fun x h' k =>
   x = .t [.l (.i 227 2), .l (.v (.int .i64 0))] /\ k = 3 /\ h' = [(0, some (ZBI th (2 + m) (ZH4 hs 0 h m) (ZJB ws 0 m))), (2, some (ZOm m 0 (fun _ => 0) (fun _ => -1) (fun i => i + 1) (fun _ => 0) fun _ => 0))] := by
 have hcn := ZJC th 0 hs ws h m (by omega) hm hb
 rw [show 0 + 2 + m = 2 + m by omega] at hcn
 refine sE Tryz.func64 ic64_eq [.t 4, .t 5] fun G hP hA => ?_
 unfold evF ic64
 conv => whnf
 (refine ZAA hP (hcn) ?_; (conv => whnf); refine zA ?_; conv => whnf)
 (refine ZAC ?_; conv => whnf); exact zF
theorem ZJD (h : Nat -> Int) (m : Nat) (start slots pool budget glob loc : Int) (hm : 1 <= m /\ m <= 64) (hb : anyZ badH h m = false) :
  ZAH Tryz.prog 33 [(0, some (.ro 1 m (numE h)))] 1 [ZB8 3 0 m start slots pool budget glob loc] fun x h' k =>
   x = .t [.l (.i 227 1), .l (.p 2 0 0 0), .l (.v (.int .i64 0))] /\ k = 3 /\ h' = [(1, some (.ob [2] (ZAs (ZDY m 0 (fun _ => 0) (fun _ => -1) (fun i => i + 1) (fun _ => 0) fun _ => 0) 4))),
    (2, some (ZBg m (2 + m) (cutF (ZJB (fun _ => 0) 0 m) (2 + m)) (ZH4 (fun _ => 0) 0 h m) (fun _ => 0) (fun _ => 0) (fun _ => 0) fun _ => 0))] := by
 have hpn := ZBf (m : Int) (fun _ => 0) fun _ => 0
 have hly := ZPh (m : Int) (fun _ => 0) (fun _ => 0) h m start slots pool budget glob loc hm hb
 have hpp := ZBy m (2 + m) (ZH4 (fun _ => 0) 0 h m) (ZJB (fun _ => 0) 0 m) hm (by omega) (ZL7 hm.1 hb)
 have hu := ZGQ m 0 (fun _ => 0) (fun _ => -1) (fun i => i + 1) (fun _ => 0) fun _ => 0
 refine sE Tryz.func33 ic33_eq [.t 2, .t 3, .t 4] fun G hP hA => ?_
 unfold evF ic33
 conv => whnf
 (repeat' ((first | refine aI ?_ | refine a64 ?_ | refine a32 ?_ | refine a8 ?_); conv => whnf))
 (refine ZAA hP (hpn) ?_; (conv => whnf); refine zA ?_; conv => whnf)
 (refine ZAA hP (hly) ?_; (conv => whnf); refine zA ?_; conv => whnf)
 (refine ZAA hP (hpp) ?_; (conv => whnf); refine zA ?_; conv => whnf)
 refine ZBs hP ZHK ?_
 (refine ZAA hP (hu) ?_; (conv => whnf); refine zA ?_; conv => whnf)
 (refine ZAC ?_; conv => whnf); exact zF
theorem ZKX (v : Int) : ZAH Tryz.prog 135 [] 0 [.l (.v (.int .i64 v))] fun x h n => x = ZAb (badH v) /\ n = 0 /\ h = [] := by
 refine sE Tryz.func135 ic135_eq [.t 2] fun G hP hA => ?_
 unfold evF ic135
 conv => whnf
 (repeat' (first | (refine ZAE ?_; conv => whnf) | (refine dsplit (fun _ => ?_) (fun _ => ?_) <;> conv => whnf)))
 all_goals (((refine ZAC ?_; conv => whnf); refine ⟨rfl, rfl, rfl, ZAr ?_, ZAD, rfl⟩); unfold badH; rw [Bool.eq_iff_iff]; simp; omega)
def mcsE (sp ot : Nat -> Int) : Nat -> List Value := fun i => [.int .i64 (sp i), .int .u32 (ot i)]
def ZOp (n : Nat) (tail : Int) (st dl sp ot : Nat -> Int) : Heap := [(0, some (.st [.p 1 0 0 0, .v (.pointer none), .v (.int .i64 tail), .s 2 2 0 n 0])), (1, some (ZBe n st dl false true)), (2, some (.ar 2 n (mcsE sp ot)))]
def ZOq (n : Nat) (tail : Int) (st dl sp ot : Nat -> Int) : Ent := .ob [] (ZAs (ZOp n tail st dl sp ot) 3)
def ZDZ (n : Nat) (tail : Int) (st dl sp ot : Nat -> Int) : Heap := [(0, some (.st [.p 2 0 0 0, .p 1 0 0 0, .v (.int .i64 tail), .s 3 2 0 n 0])), (2, some (ZBe n st dl false true)), (3, some (.ar 2 n (mcsE sp ot)))]
def ZL8 (q : Nat) (f : Nat -> Int) (m : Nat) (h : Nat -> Int) : Nat -> Nat -> Int
 | 0 => f
 | i + 1 => ZA0 (ZL8 q f m h i) (m + q * i) (h i)
theorem ZFv {Q : Int -> Prop} {f h : Nat -> Int} {q m : Nat} (hf : ∀ j, j < m -> Q (f j)) : ∀ i, (∀ j, j < i -> Q (h j)) -> ∀ j, j < m + q * i -> Q (ZL8 q f m h i j)
 | 0, _, j, hj => hf j (by omega)
 | i + 1, hh, j, _ => ZBT (ZFv hf i fun j hj => hh j (by omega)) (hh i (by omega)) j
def ZH5 (hs : Nat -> Int) (m : Nat) (h : Nat -> Int) : Nat -> Nat -> Int := ZL8 2 (ZA0 hs m (h 0)) (m + 1) h
def ZJE (ws : Nat -> Int) (m : Nat) : Nat -> Nat -> Int := ZL8 2 (ZA0 ws m 0) (m + 1) fun _ => 0
theorem ZJF (th : Int) (M : Nat) (hs ws h : Nat -> Int) (m : Nat) (hM : M <= 10000) (hm : 1 <= m /\ m <= 64) (hb : anyZ badH h m = false) :
  ZAH Tryz.prog 108 [(0, some (ZBI th M hs ws)), (1, some (.ro 1 m (numE h)))] 2 [.l (.p 0 0 0 0), .l (.s 1 1 0 m 0)] fun x h' k =>
   x = .t [.l (.p 2 0 0 0), .l (.v (.int .i64 0))] /\ k = 3 /\ h' = [(0, some (ZBI th (M + 1 + 2 * m) (ZH5 hs M h m) (ZJE ws M m))), (2, some (ZOq m M (fun _ => 0) (fun _ => -1) (fun _ => 0) fun _ => 0))] := by
 have hse := ZCO m false true (by omega)
 have hcf := ZBP 135 badH ZKX h m (by omega)
 rw [hb] at hcf
 have hw1 := ZBG th M hs ws (h 0) 0 (by omega)
 refine sE Tryz.func108 ic108_eq [.t 4, .t 5] fun G hP hA => ?_
 unfold evF ic108
 conv => whnf
 (refine ZAA hP (hse) ?_; (conv => whnf); refine zA ?_; conv => whnf)
 (refine ZAA hP (hcf) ?_; (conv => whnf); refine zA ?_; conv => whnf)
 (refine ZAl (by rw [hP]; exact follows) 60 (by kernel_rfl) ?_; conv => whnf)
 repeat' (first | (refine And.intro (by first | omega | (simp [ZAI]; omega)) ?_; conv => whnf) | (refine And.intro ?_ ?_ <;> (conv => whnf)) | ((refine ZAB hP (hw1) ?_; (conv => whnf); refine zA ?_; conv => whnf)))
 all_goals
  refine ZAn (α := Nat) (ds := []) (N := 5) (fun i => [(36, sInt .i64 (i : Int))]) []
   (fun i => [(0, some (ZBI th (M + 1 + 2 * i) (ZH5 hs M h i) (ZJE ws M i)))])
   (fun i => i <= m) (fun i => m - i) 0 (Nat.zero_le _) ?_ fun i hi => ?_
  ·(conv => whnf); (refine ZAU hA ?_; conv => whnf); exact zI
  ·have hwi := ZH3 th (M + 1 + 2 * i) (ZH5 hs M h i) (ZJE ws M i) 2 (h i) 0 2 (by omega) (by omega)
   conv => whnf
   refine dsplit (fun h1 => ?_) (fun h1 => ?_)
   ·conv => whnf
    (repeat' ((first | refine aI ?_ | refine a64 ?_ | refine a32 ?_ | refine a8 ?_); conv => whnf))
    (refine ZAA hP (hwi) ?_; (conv => whnf); refine zA ?_; conv => whnf)
    (repeat' ((first | refine aI ?_ | refine a64 ?_ | refine a32 ?_ | refine a8 ?_); conv => whnf))
    refine ⟨i + 1, by omega, by omega, ?_⟩
    (conv => whnf); (refine ZAU hA ?_; conv => whnf); exact zI
   ·obtain rfl : i = m := by omega
    conv => whnf
    (refine ZAG (H := (ZOp i M (fun _ => 0) (fun _ => -1) (fun _ => 0) fun _ => 0)) (np := 3) 4 0 (Nat.le_of_ble_eq_true rfl) ?_; conv => whnf); (refine zK ?_)
    (refine ZAC ?_; conv => whnf); exact zF
theorem ZJG (v : Int) : ZAH Tryz.prog 129 [] 0 [.l (.v (.int .i64 v))] fun x h n => x = ZAb (badH v) /\ n = 0 /\ h = [] := by
 refine sE Tryz.func129 ic129_eq [.t 2] fun G hP hA => ?_
 unfold evF ic129
 conv => whnf
 (repeat' (first | (refine ZAE ?_; conv => whnf) | (refine dsplit (fun _ => ?_) (fun _ => ?_) <;> conv => whnf)))
 all_goals (((refine ZAC ?_; conv => whnf); refine ⟨rfl, rfl, rfl, ZAr ?_, ZAD, rfl⟩); unfold badH; rw [Bool.eq_iff_iff]; simp; omega)
def ZH6 (b : Nat -> Bool) : Nat -> List Value := fun i => [.bool (b i)]
def ZLN (n : Nat) (nx ow : Int) (st dl nu : Nat -> Int) (dr : Nat -> Bool) : Heap := [(0, some (.st [.p 1 0 0 0, .v (.pointer none), .v (.int .i64 nx), .v (.int .i64 ow), .s 2 1 0 n 0, .s 3 1 0 n 0])), (1, some (ZBe n st dl false true)), (2, some (.ar 1 n (ZCj nu))), (3, some (.ar 1 n (ZH6 dr)))]
def ZLO (n : Nat) (nx ow : Int) (st dl nu : Nat -> Int) (dr : Nat -> Bool) : Ent := .ob [] (ZAs (ZLN n nx ow st dl nu dr) 4)
def ZB2 (n : Nat) (nx ow : Int) (st dl nu : Nat -> Int) (dr : Nat -> Bool) : Heap := [(0, some (.st [.p 2 0 0 0, .p 1 0 0 0, .v (.int .i64 nx), .v (.int .i64 ow), .s 3 1 0 n 0, .s 4 1 0 n 0])), (2, some (ZBe n st dl false true)), (3, some (.ar 1 n (ZCj nu))), (4, some (.ar 1 n (ZH6 dr)))]
def ZER (hs : Nat -> Int) (m : Nat) (h : Nat -> Int) : Nat -> Int := ZA0 (ZA0 hs m (h 0)) (m + 1) (h 0)
def ZGR (ws : Nat -> Int) (m : Nat) (u : Int) : Nat -> Int := ZA0 (ZA0 ws m u) (m + 1) u
theorem ZHL (th : Int) (M : Nat) (hs ws h : Nat -> Int) (m : Nat) (u : Int) (hM : M <= 10000) (hm : 1 <= m /\ m <= 64) (hb : anyZ badH h m = false) :
  ZAH Tryz.prog 105 [(0, some (ZBI th M hs ws)), (1, some (.ro 1 m (numE h)))] 2 [.l (.p 0 0 0 0), .l (.s 1 1 0 m 0), .l (.v (.int .u32 u))] fun x h' k =>
   x = .t [.l (.p 2 0 0 0), .l (.v (.int .i64 0))] /\ k = 3 /\ h' = [(0, some (ZBI th (M + 2) (ZER hs M h) (ZGR ws M u))), (2, some (ZLO m M (M + 1) (fun _ => 0) (fun _ => -1) (fun _ => 0) fun _ => false))] := by
 have hse := ZCO m false true (by omega)
 have hcf := ZBP 129 badH ZJG h m (by omega)
 rw [hb] at hcf
 have hw1 := ZBG th M hs ws (h 0) u (by omega)
 have hw2 := ZBG th (M + 1) (ZA0 hs M (h 0)) (ZA0 ws M u) (h 0) u (by omega)
 refine sE Tryz.func105 ic105_eq [.t 6, .t 7] fun G hP hA => ?_
 unfold evF ic105
 conv => whnf
 (refine ZAA hP (hse) ?_; (conv => whnf); refine zA ?_; conv => whnf)
 (refine ZAA hP (hcf) ?_; (conv => whnf); refine zA ?_; conv => whnf)
 (refine ZAl (by rw [hP]; exact follows) 60 (by kernel_rfl) ?_; conv => whnf)
 repeat' (first | (refine And.intro (by first | omega | (simp [ZAI]; omega)) ?_; conv => whnf) | (refine And.intro ?_ ?_ <;> (conv => whnf)))
 all_goals
  (refine ZAl (by rw [hP]; exact follows) 60 (by kernel_rfl) ?_; conv => whnf)
  repeat' (first | (refine And.intro (by first | omega | (simp [ZAI]; omega)) ?_; conv => whnf) | (refine And.intro ?_ ?_ <;> (conv => whnf)))
 all_goals (refine ZAB hP (hw1) ?_; (conv => whnf); refine zA ?_; conv => whnf)
 repeat' (first | (refine And.intro (by first | omega | (simp [ZAI]; omega)) ?_; conv => whnf) | (refine And.intro ?_ ?_ <;> (conv => whnf)))
 all_goals (refine ZAB hP (hw2) ?_; (conv => whnf); refine zA ?_; conv => whnf)
 repeat' (first | (refine And.intro (by first | omega | (simp [ZAI]; omega)) ?_; conv => whnf) | (refine And.intro ?_ ?_ <;> (conv => whnf)))
 all_goals ((refine ZAG (H := (ZLN m M ((M + 1 : Nat) : Int) (fun _ => 0) (fun _ => -1) (fun _ => 0) fun _ => false)) (np := 4) 5 0 (Nat.le_of_ble_eq_true rfl) ?_; conv => whnf); (refine zK ?_); (refine ZAC ?_; conv => whnf); exact zF)
theorem ZFg (n : Nat) (nx ow : Int) (st dl nu : Nat -> Int) (dr : Nat -> Bool) :
  ZAH Tryz.prog 215 [(0, some (ZLO n nx ow st dl nu dr))] 2 [.l (.p 0 0 0 0), .l (.p 1 0 0 0)] fun x h k =>
   x = .t [] /\ k = 2 /\ h = [(0, some (ZEN (ZB2 n nx ow st dl nu dr) 5 1))] := by
 refine sG (ZAd 0 (h := [(0, some (ZLO n nx ow st dl nu dr))]) (n := 2) (ks := []) (H := ZLN n nx ow st dl nu dr) (np := 4) rfl (by decide) rfl rfl rfl) Tryz.func215 ic215_eq [] fun G hP hA => ?_
 unfold evF ic215
 conv => whnf
 (refine ZAG (H := (ZB2 n nx ow st dl nu dr)) (np := 5) 0 1 (Nat.le_of_ble_eq_true rfl) ?_; conv => whnf); (refine zK ?_)
 (refine ZAC ?_; conv => whnf); exact zF
theorem ZGS (v : Value) (args : Array Value) (w : World) : (callMethod (.iface 221 v) "Use" args).run Tryz.prog w = .ok (.enter 215 (#[v] ++ args)) w := by kernel_rfl
theorem ZGT (n : Nat) (tail : Int) (st dl sp ot : Nat -> Int) :
  ZAH Tryz.prog 244 [(0, some (ZOq n tail st dl sp ot))] 2 [.l (.p 0 0 0 0), .l (.p 1 0 0 0)] fun x h k =>
   x = .t [] /\ k = 2 /\ h = [(0, some (ZEN (ZDZ n tail st dl sp ot) 4 1))] := by
 refine sG (ZAd 0 (h := [(0, some (ZOq n tail st dl sp ot))]) (n := 2) (ks := []) (H := ZOp n tail st dl sp ot) (np := 3) rfl (by decide) rfl rfl rfl) Tryz.func244 ic244_eq [] fun G hP hA => ?_
 unfold evF ic244
 conv => whnf
 (refine ZAG (H := (ZDZ n tail st dl sp ot)) (np := 4) 0 1 (Nat.le_of_ble_eq_true rfl) ?_; conv => whnf); (refine zK ?_)
 (refine ZAC ?_; conv => whnf); exact zF
theorem ZHM (v : Value) (args : Array Value) (w : World) : (callMethod (.iface 230 v) "Use" args).run Tryz.prog w = .ok (.enter 244 (#[v] ++ args)) w := by kernel_rfl
theorem ZPi (th : Int) (hs ws h : Nat -> Int) (m : Nat) (start slots pool budget glob loc : Int) (hm : 1 <= m /\ m <= 64) (hb : anyZ badH h m = false) :
  ZAH Tryz.prog 64 [(0, some (ZBI th 0 hs ws)), (1, some (.ro 1 m (numE h)))] 2 [.l (.p 0 0 0 0), ZB8 1 1 m start slots pool budget glob loc] fun x h' k =>
   x = .t [.l (.i 221 2), .l (.v (.int .i64 0))] /\ k = 3 /\ h' = [(0, some (ZBI th (2) (ZER hs 0 h) (ZGR ws 0 start))), (2, some (ZLO m 0 1 (fun _ => 0) (fun _ => -1) (fun _ => 0) fun _ => false))] := by
 have hcn := ZHL th 0 hs ws h m start (by omega) hm hb
 rw [show 0 + 2 = 2 by omega] at hcn
 refine sE Tryz.func64 ic64_eq [.t 4, .t 5] fun G hP hA => ?_
 unfold evF ic64
 conv => whnf
 (refine ZAA hP (hcn) ?_; (conv => whnf); refine zA ?_; conv => whnf)
 (refine ZAC ?_; conv => whnf); exact zF
theorem ZKY {hs h : Nat -> Int} {m : Nat} (hm : 1 <= m) (hb : anyZ badH h m = false) : anyZ badH (ZER hs 0 h) 2 = false := by
 have h0 := ZAy.1 hb
 exact ZAy.2 fun j hj => ZBT (Q := fun x => badH x = false) (fun j hj => ZBT (Q := fun x => badH x = false) (fun j hj => absurd hj (Nat.not_lt_zero _)) (h0 0 hm) j) (h0 0 hm) j
theorem ZJH (h : Nat -> Int) (m : Nat) (start slots pool budget glob loc : Int) (hm : 1 <= m /\ m <= 64) (hb : anyZ badH h m = false) :
  ZAH Tryz.prog 33 [(0, some (.ro 1 m (numE h)))] 1 [ZB8 1 0 m start slots pool budget glob loc] fun x h' k =>
   x = .t [.l (.i 221 1), .l (.p 2 0 0 0), .l (.v (.int .i64 0))] /\ k = 3 /\ h' = [(1, some (.ob [2] (ZAs (ZB2 m 0 1 (fun _ => 0) (fun _ => -1) (fun _ => 0) fun _ => false) 5))),
    (2, some (ZBg m (2) (cutF (ZGR (fun _ => 0) 0 start) (2)) (ZER (fun _ => 0) 0 h) (fun _ => 0) (fun _ => 0) (fun _ => 0) fun _ => 0))] := by
 have hpn := ZBf (m : Int) (fun _ => 0) fun _ => 0
 have hly := ZPi (m : Int) (fun _ => 0) (fun _ => 0) h m start slots pool budget glob loc hm hb
 have hpp := ZBy m (2) (ZER (fun _ => 0) 0 h) (ZGR (fun _ => 0) 0 start) hm (by omega) (ZKY hm.1 hb)
 have hu := ZFg m 0 1 (fun _ => 0) (fun _ => -1) (fun _ => 0) fun _ => false
 refine sE Tryz.func33 ic33_eq [.t 2, .t 3, .t 4] fun G hP hA => ?_
 unfold evF ic33
 conv => whnf
 (repeat' ((first | refine aI ?_ | refine a64 ?_ | refine a32 ?_ | refine a8 ?_); conv => whnf))
 (refine ZAA hP (hpn) ?_; (conv => whnf); refine zA ?_; conv => whnf)
 (refine ZAA hP (hly) ?_; (conv => whnf); refine zA ?_; conv => whnf)
 (refine ZAA hP (hpp) ?_; (conv => whnf); refine zA ?_; conv => whnf)
 refine ZBs hP ZGS ?_
 (refine ZAA hP (hu) ?_; (conv => whnf); refine zA ?_; conv => whnf)
 (refine ZAC ?_; conv => whnf); exact zF
theorem ZPj (th : Int) (hs ws h : Nat -> Int) (m : Nat) (start slots pool budget glob loc : Int) (hm : 1 <= m /\ m <= 64) (hb : anyZ badH h m = false) :
  ZAH Tryz.prog 64 [(0, some (ZBI th 0 hs ws)), (1, some (.ro 1 m (numE h)))] 2 [.l (.p 0 0 0 0), ZB8 4 1 m start slots pool budget glob loc] fun x h' k =>
   x = .t [.l (.i 230 2), .l (.v (.int .i64 0))] /\ k = 3 /\ h' = [(0, some (ZBI th (1 + 2 * m) (ZH5 hs 0 h m) (ZJE ws 0 m))), (2, some (ZOq m 0 (fun _ => 0) (fun _ => -1) (fun _ => 0) fun _ => 0))] := by
 have hcn := ZJF th 0 hs ws h m (by omega) hm hb
 rw [show 0 + 1 + 2 * m = 1 + 2 * m by omega] at hcn
 refine sE Tryz.func64 ic64_eq [.t 4, .t 5] fun G hP hA => ?_
 unfold evF ic64
 conv => whnf
 (refine ZAA hP (hcn) ?_; (conv => whnf); refine zA ?_; conv => whnf)
 (refine ZAC ?_; conv => whnf); exact zF
theorem ZL9 {hs h : Nat -> Int} {m : Nat} (hm : 1 <= m) (hb : anyZ badH h m = false) : anyZ badH (ZH5 hs 0 h m) (1 + 2 * m) = false := by
 have h0 := ZAy.1 hb
 exact ZAy.2 (ZFv (Q := fun x => badH x = false) (q := 2) (m := 1) (fun j hj => ZBT (Q := fun x => badH x = false) (fun j hj => absurd hj (Nat.not_lt_zero _)) (h0 0 hm) j) m h0)
theorem ZJI (h : Nat -> Int) (m : Nat) (start slots pool budget glob loc : Int) (hm : 1 <= m /\ m <= 64) (hb : anyZ badH h m = false) :
  ZAH Tryz.prog 33 [(0, some (.ro 1 m (numE h)))] 1 [ZB8 4 0 m start slots pool budget glob loc] fun x h' k =>
   x = .t [.l (.i 230 1), .l (.p 2 0 0 0), .l (.v (.int .i64 0))] /\ k = 3 /\ h' = [(1, some (.ob [2] (ZAs (ZDZ m 0 (fun _ => 0) (fun _ => -1) (fun _ => 0) fun _ => 0) 4))),
    (2, some (ZBg m (1 + 2 * m) (cutF (ZJE (fun _ => 0) 0 m) (1 + 2 * m)) (ZH5 (fun _ => 0) 0 h m) (fun _ => 0) (fun _ => 0) (fun _ => 0) fun _ => 0))] := by
 have hpn := ZBf (m : Int) (fun _ => 0) fun _ => 0
 have hly := ZPj (m : Int) (fun _ => 0) (fun _ => 0) h m start slots pool budget glob loc hm hb
 have hpp := ZBy m (1 + 2 * m) (ZH5 (fun _ => 0) 0 h m) (ZJE (fun _ => 0) 0 m) hm (by omega) (ZL9 hm.1 hb)
 have hu := ZGT m 0 (fun _ => 0) (fun _ => -1) (fun _ => 0) fun _ => 0
 refine sE Tryz.func33 ic33_eq [.t 2, .t 3, .t 4] fun G hP hA => ?_
 unfold evF ic33
 conv => whnf
 (repeat' ((first | refine aI ?_ | refine a64 ?_ | refine a32 ?_ | refine a8 ?_); conv => whnf))
 (refine ZAA hP (hpn) ?_; (conv => whnf); refine zA ?_; conv => whnf)
 (refine ZAA hP (hly) ?_; (conv => whnf); refine zA ?_; conv => whnf)
 (refine ZAA hP (hpp) ?_; (conv => whnf); refine zA ?_; conv => whnf)
 refine ZBs hP ZHM ?_
 (refine ZAA hP (hu) ?_; (conv => whnf); refine zA ?_; conv => whnf)
 (refine ZAC ?_; conv => whnf); exact zF
theorem ZJJ (v : Int) : ZAH Tryz.prog 139 [] 0 [.l (.v (.int .i64 v))] fun x h n => x = ZAb (badH v) /\ n = 0 /\ h = [] := by
 refine sE Tryz.func139 ic139_eq [.t 2] fun G hP hA => ?_
 unfold evF ic139
 conv => whnf
 (repeat' (first | (refine ZAE ?_; conv => whnf) | (refine dsplit (fun _ => ?_) (fun _ => ?_) <;> conv => whnf)))
 all_goals (((refine ZAC ?_; conv => whnf); refine ⟨rfl, rfl, rfl, ZAr ?_, ZAD, rfl⟩); unfold badH; rw [Bool.eq_iff_iff]; simp; omega)
theorem ZJK : ZAH Tryz.prog 140 [] 0 [.l (.v (.int .i64 1073741823)), .l (.v (.bool false)), .l (.v (.bool false))] fun x h n => x = sInt .u32 4294967292 /\ n = 0 /\ h = [] := by
 refine sE Tryz.func140 ic140_eq [.t 6] fun G hP hA => ?_
 unfold evF ic140
 conv => whnf
 (repeat' ((first | refine aI ?_ | refine a64 ?_ | refine a32 ?_ | refine a8 ?_); conv => whnf))
 (repeat' (first | (refine ZAE ?_; conv => whnf) | (refine dsplit (fun _ => ?_) (fun _ => ?_) <;> conv => whnf)))
 (refine ZAC ?_; conv => whnf); exact zF
def ZCP (cl no ah la wo sp : Nat -> Int) : Nat -> List Value := fun i => [.int .i64 (cl i), .int .i64 (no i), .int .i64 (ah i), .int .i64 (la i), .int .u32 (wo i), .int .i64 (sp i)]
def ZNe (n : Nat) (tail : Int) (st dl cl no ah la wo sp : Nat -> Int) : Heap := [(0, some (.st [.p 1 0 0 0, .v (.pointer none), .v (.int .i64 tail), .s 2 6 0 n 0])), (1, some (ZBe n st dl false false)), (2, some (.ar 6 n (ZCP cl no ah la wo sp)))]
def ZLP (n : Nat) (tail : Int) (st dl cl no ah la wo sp : Nat -> Int) : Ent := .ob [] (ZAs (ZNe n tail st dl cl no ah la wo sp) 3)
def ZCC (n : Nat) (tail : Int) (st dl cl no ah la wo sp : Nat -> Int) : Heap := [(0, some (.st [.p 2 0 0 0, .p 1 0 0 0, .v (.int .i64 tail), .s 3 6 0 n 0])), (2, some (ZBe n st dl false false)), (3, some (.ar 6 n (ZCP cl no ah la wo sp)))]
def ZHN (hs : Nat -> Int) (m : Nat) (h : Nat -> Int) (n : Nat) : Nat -> Int := ZA0 (ZBQ (ZBQ (ZA0 hs m (h 0)) (m + 1) (fun i => i) 8) (m + 1 + 8) h n) (m + 1 + 8 + n) (h 0)
def ZJL (ws : Nat -> Int) (m n : Nat) : Nat -> Int := ZA0 (ZBQ (ZBQ (ZA0 ws m ((n : Int) + 1)) (m + 1) (fun _ => 0) 8) (m + 1 + 8) (fun _ => 0) n) (m + 1 + 8 + n) 4294967292
theorem ZMA (th : Int) (M : Nat) (hs ws h : Nat -> Int) (m : Nat) (hM : M <= 10000) (hm : 1 <= m /\ m <= 64) (hb : anyZ badH h m = false) :
  ZAH Tryz.prog 110 [(0, some (ZBI th M hs ws)), (1, some (.ro 1 m (numE h)))] 2 [.l (.p 0 0 0 0), .l (.s 1 1 0 m 0)] fun x h' k =>
   x = .t [.l (.p 2 0 0 0), .l (.v (.int .i64 0))] /\ k = 3 /\ h' = [(0, some (ZBI th (M + 1 + 8 + m + 1) (ZHN hs M h m) (ZJL ws M m))), (2, some (ZLP m M (fun _ => 0) (fun _ => -1) h (fun i => i + 1) (fun _ => 0) (fun _ => 0) (fun _ => 0) fun _ => 0))] := by
 have hse := ZCO m false false (by omega)
 have hcf := ZBP 139 badH ZJJ h m (by omega)
 rw [hb] at hcf
 have hw1 := ZBG th M hs ws (h 0) ((m : Int) + 1) (by omega)
 refine sE Tryz.func110 ic110_eq [.t 4, .t 5] fun G hP hA => ?_
 unfold evF ic110
 conv => whnf
 (refine ZAA hP (hse) ?_; (conv => whnf); refine zA ?_; conv => whnf)
 (refine ZAA hP (hcf) ?_; (conv => whnf); refine zA ?_; conv => whnf)
 (repeat' ((first | refine aI ?_ | refine a64 ?_ | refine a32 ?_ | refine a8 ?_); conv => whnf))
 (refine ZAA hP (hw1) ?_; (conv => whnf); refine zA ?_; conv => whnf)
 refine ZAn (α := Nat) (ds := []) (N := 4) (fun i => [(38, sInt .i64 (i : Int))]) []
  (fun i => [(0, some (ZBI th (M + 1 + i) (ZBQ (ZA0 hs M (h 0)) (M + 1) (fun i => i) i) (ZBQ (ZA0 ws M ((m : Int) + 1)) (M + 1) (fun _ => 0) i)))])
  (fun i => i <= 8) (fun i => 8 - i) 0 (Nat.zero_le _) ?_ fun i hi => ?_
 ·(conv => whnf); (refine ZAU hA ?_; conv => whnf); exact zI
 have hwi := ZBG th (M + 1 + i) (ZBQ (ZA0 hs M (h 0)) (M + 1) (fun i => i) i) (ZBQ (ZA0 ws M ((m : Int) + 1)) (M + 1) (fun _ => 0) i) (i : Int) 0 (by omega)
 conv => whnf
 refine dsplit (fun h1 => ?_) (fun h1 => ?_)
 ·conv => whnf
  (refine ZAA hP (hwi) ?_; (conv => whnf); refine zA ?_; conv => whnf)
  (repeat' ((first | refine aI ?_ | refine a64 ?_ | refine a32 ?_ | refine a8 ?_); conv => whnf))
  refine ⟨i + 1, by omega, by omega, ?_⟩
  (conv => whnf); (refine ZAU hA ?_; conv => whnf); exact zI
 obtain rfl : i = 8 := by omega
 generalize hA1 : ZBQ (ZA0 hs M (h 0)) (M + 1) (fun i => i) 8 = hs8
 generalize hA2 : ZBQ (ZA0 ws M ((m : Int) + 1)) (M + 1) (fun _ => 0) 8 = ws8
 conv => whnf
 refine ZAn (α := Nat) (ds := []) (N := 5) (fun i => [(47, sInt .i64 (i : Int))]) []
  (fun i => [(0, some (ZBI th (M + 1 + 8 + i) (ZBQ hs8 (M + 1 + 8) h i) (ZBQ ws8 (M + 1 + 8) (fun _ => 0) i))), (3, some (.st [.p 2 0 0 0, .v (.pointer none), .v (.int .i64 M), .s 4 6 0 i 0])), (4, some (.ar 6 i (ZCP h (fun i => i + 1) (fun _ => 0) (fun _ => 0) (fun _ => 0) fun _ => 0)))])
  (fun i => i <= m) (fun i => m - i) 0 (Nat.zero_le _) ?_ fun i hi => ?_
 ·conv => whnf
  refine Imp.trans (ZAj (ZAV.nilc 3 3 6 (ZCP h (fun i => i + 1) (fun _ => 0) (fun _ => 0) (fun _ => 0) fun _ => 0) rfl rfl)) ?_
  (conv => whnf); (refine ZAU hA ?_; conv => whnf); exact zI
 have hni : nadd 0 ((i : Nat) : Int).toNat = i := by simp [ZAI]
 have hwi := ZBG th (M + 1 + 8 + i) (ZBQ hs8 (M + 1 + 8) h i) (ZBQ ws8 (M + 1 + 8) (fun _ => 0) i) (h i) 0 (by omega)
 conv => whnf
 refine dsplit (fun h1 => ?_) (fun h1 => ?_)
 ·conv => whnf
  (repeat' ((first | refine aI ?_ | refine a64 ?_ | refine a32 ?_ | refine a8 ?_); conv => whnf))
  rw [hni]
  conv => whnf
  (refine ZAA hP (hwi) ?_; (conv => whnf); refine zA ?_; conv => whnf)
  (repeat' ((first | refine aI ?_ | refine a64 ?_ | refine a32 ?_ | refine a8 ?_); conv => whnf))
  refine ⟨i + 1, by omega, by omega, ?_⟩
  (conv => whnf); (refine ZAU hA ?_; conv => whnf); refine ⟨rfl, rfl, rfl, ZAe, ?_, rfl⟩
  refine ⟨ZAD, rfl, ⟨rfl, rfl, fun j hj => ?_⟩, ZAD⟩
  refine ZAx (f := ZCP h (fun i => i + 1) (fun _ => 0) (fun _ => 0) (fun _ => 0) fun _ => 0) (i := i) rfl j hj
 obtain rfl : i = m := by omega
 have hwl := ZBG th (M + 1 + 8 + i) (ZBQ hs8 (M + 1 + 8) h i) (ZBQ ws8 (M + 1 + 8) (fun _ => 0) i) (h 0) 4294967292 (by omega)
 have hpm := ZJK
 conv => whnf
 (refine ZAl (by rw [hP]; exact follows) 60 (by kernel_rfl) ?_; conv => whnf)
 repeat' (first | (refine And.intro (by first | omega | (simp [ZAI]; omega)) ?_; conv => whnf) | (refine And.intro ?_ ?_ <;> (conv => whnf)))
 all_goals (refine ZAB hP (hpm) ?_; (conv => whnf); refine zA ?_; conv => whnf)
 repeat' (first | (refine And.intro (by first | omega | (simp [ZAI]; omega)) ?_; conv => whnf) | (refine And.intro ?_ ?_ <;> (conv => whnf)))
 all_goals (refine ZAB hP (hwl) ?_; (conv => whnf); refine zA ?_; conv => whnf)
 repeat' (first | (refine And.intro (by first | omega | (simp [ZAI]; omega)) ?_; conv => whnf) | (refine And.intro ?_ ?_ <;> (conv => whnf)))
 all_goals ((refine ZAG (H := (ZNe i M (fun _ => 0) (fun _ => -1) h (fun i => i + 1) (fun _ => 0) (fun _ => 0) (fun _ => 0) fun _ => 0)) (np := 3) 3 0 (Nat.le_of_ble_eq_true rfl) ?_; conv => whnf); (refine zK ?_); subst hA1; subst hA2; (refine ZAC ?_; conv => whnf); exact zF)
theorem ZJM (n : Nat) (tail : Int) (st dl cl no ah la wo sp : Nat -> Int) :
  ZAH Tryz.prog 261 [(0, some (ZLP n tail st dl cl no ah la wo sp))] 2 [.l (.p 0 0 0 0), .l (.p 1 0 0 0)] fun x h k =>
   x = .t [] /\ k = 2 /\ h = [(0, some (ZEN (ZCC n tail st dl cl no ah la wo sp) 4 1))] := by
 refine sG (ZAd 0 (h := [(0, some (ZLP n tail st dl cl no ah la wo sp))]) (n := 2) (ks := []) (H := ZNe n tail st dl cl no ah la wo sp) (np := 3) rfl (by decide) rfl rfl rfl) Tryz.func261 ic261_eq [] fun G hP hA => ?_
 unfold evF ic261
 conv => whnf
 (refine ZAG (H := (ZCC n tail st dl cl no ah la wo sp)) (np := 4) 0 1 (Nat.le_of_ble_eq_true rfl) ?_; conv => whnf); (refine zK ?_)
 (refine ZAC ?_; conv => whnf); exact zF
theorem ZKZ (v : Value) (args : Array Value) (w : World) : (callMethod (.iface 236 v) "Use" args).run Tryz.prog w = .ok (.enter 261 (#[v] ++ args)) w := by kernel_rfl
theorem ZPk (th : Int) (hs ws h : Nat -> Int) (m : Nat) (start slots pool budget glob loc : Int) (hm : 1 <= m /\ m <= 64) (hb : anyZ badH h m = false) :
  ZAH Tryz.prog 64 [(0, some (ZBI th 0 hs ws)), (1, some (.ro 1 m (numE h)))] 2 [.l (.p 0 0 0 0), ZB8 6 1 m start slots pool budget glob loc] fun x h' k =>
   x = .t [.l (.i 236 2), .l (.v (.int .i64 0))] /\ k = 3 /\ h' = [(0, some (ZBI th (10 + m) (ZHN hs 0 h m) (ZJL ws 0 m))), (2, some (ZLP m 0 (fun _ => 0) (fun _ => -1) h (fun i => i + 1) (fun _ => 0) (fun _ => 0) (fun _ => 0) fun _ => 0))] := by
 have hcn := ZMA th 0 hs ws h m (by omega) hm hb
 rw [show 0 + 1 + 8 + m + 1 = 10 + m by omega] at hcn
 refine sE Tryz.func64 ic64_eq [.t 4, .t 5] fun G hP hA => ?_
 unfold evF ic64
 conv => whnf
 (refine ZAA hP (hcn) ?_; (conv => whnf); refine zA ?_; conv => whnf)
 (refine ZAC ?_; conv => whnf); exact zF
theorem ZKa {hs h : Nat -> Int} {m : Nat} (hm : 1 <= m) (hb : anyZ badH h m = false) : anyZ badH (ZHN hs 0 h m) (10 + m) = false := by
 have h0 := ZAy.1 hb
 refine ZAy.2 fun j hj => ZBT (Q := fun x => badH x = false) (fun j hj => ?_) (h0 0 hm) j
 refine ZDe (Q := fun x => badH x = false) (m := 0 + 1 + 8) (fun j hj => ?_) m h0 j hj
 refine ZDe (Q := fun x => badH x = false) (m := 0 + 1) (fun j hj => ?_) 8 (fun j hj => ?_) j hj
 ·exact ZBT (Q := fun x => badH x = false) (fun j hj => absurd hj (Nat.not_lt_zero _)) (h0 0 hm) j
 ·unfold badH; simp; omega
theorem ZJN (h : Nat -> Int) (m : Nat) (start slots pool budget glob loc : Int) (hm : 1 <= m /\ m <= 64) (hb : anyZ badH h m = false) :
  ZAH Tryz.prog 33 [(0, some (.ro 1 m (numE h)))] 1 [ZB8 6 0 m start slots pool budget glob loc] fun x h' k =>
   x = .t [.l (.i 236 1), .l (.p 2 0 0 0), .l (.v (.int .i64 0))] /\ k = 3 /\ h' = [(1, some (.ob [2] (ZAs (ZCC m 0 (fun _ => 0) (fun _ => -1) h (fun i => i + 1) (fun _ => 0) (fun _ => 0) (fun _ => 0) fun _ => 0) 4))),
    (2, some (ZBg m (10 + m) (cutF (ZJL (fun _ => 0) 0 m) (10 + m)) (ZHN (fun _ => 0) 0 h m) (fun _ => 0) (fun _ => 0) (fun _ => 0) fun _ => 0))] := by
 have hpn := ZBf (m : Int) (fun _ => 0) fun _ => 0
 have hly := ZPk (m : Int) (fun _ => 0) (fun _ => 0) h m start slots pool budget glob loc hm hb
 have hpp := ZBy m (10 + m) (ZHN (fun _ => 0) 0 h m) (ZJL (fun _ => 0) 0 m) hm (by omega) (ZKa hm.1 hb)
 have hu := ZJM m 0 (fun _ => 0) (fun _ => -1) h (fun i => i + 1) (fun _ => 0) (fun _ => 0) (fun _ => 0) fun _ => 0
 refine sE Tryz.func33 ic33_eq [.t 2, .t 3, .t 4] fun G hP hA => ?_
 unfold evF ic33
 conv => whnf
 (repeat' ((first | refine aI ?_ | refine a64 ?_ | refine a32 ?_ | refine a8 ?_); conv => whnf))
 (refine ZAA hP (hpn) ?_; (conv => whnf); refine zA ?_; conv => whnf)
 (refine ZAA hP (hly) ?_; (conv => whnf); refine zA ?_; conv => whnf)
 (refine ZAA hP (hpp) ?_; (conv => whnf); refine zA ?_; conv => whnf)
 refine ZBs hP ZKZ ?_
 (refine ZAA hP (hu) ?_; (conv => whnf); refine zA ?_; conv => whnf)
 (refine ZAC ?_; conv => whnf); exact zF
theorem ZMB (v : Int) (h : Nat -> Int) (m : Nat) (hm : m <= 1000000) :
  ZAH Tryz.prog 150 [(0, some (.ro 1 m (numE h)))] 1 [.l (.s 0 1 0 m 0), .l (.v (.int .i64 v))] fun x h' n => x = sInt .i64 (ZE3 (fun x => decide (v = x)) h 0 m) /\ n = 1 /\ h' = [] := by
 refine sE Tryz.func150 ic150_eq [.t 4] fun G hP hA => ?_
 unfold evF ic150
 conv => whnf
 refine ZAn (α := Nat) (ds := []) (N := 1) (fun i => [(8, sInt .i64 (i : Int))]) [] (fun _ => [])
  (fun i => i <= m /\ ZE3 (fun x => decide (v = x)) h 0 m = ZE3 (fun x => decide (v = x)) h i (m - i)) (fun i => m - i) 0 ⟨Nat.zero_le _, rfl⟩ ?_ fun i hi => ?_
 ·(conv => whnf); (refine ZAU hA ?_; conv => whnf); exact zI
 ·obtain ⟨hi0, hi1⟩ := hi
  conv => whnf
  refine dsplit (fun h1 => ?_) (fun h1 => ?_)
  ·have hst : ZE3 (fun x => decide (v = x)) h i (m - i) = if decide (v = h i) = true then (i : Int) else ZE3 (fun x => decide (v = x)) h (i + 1) (m - (i + 1)) := by
    rw [show m - i = (m - (i + 1)) + 1 by omega]; rfl
   conv => whnf
   (repeat' ((first | refine aI ?_ | refine a64 ?_ | refine a32 ?_ | refine a8 ?_); conv => whnf))
   refine dsplit (fun h2 => ?_) (fun h2 => ?_)
   ·replace h2 : v = h i := h2
    conv => whnf
    (refine ZAC ?_; conv => whnf); refine ⟨rfl, rfl, rfl, ZBB ?_, ZAD, rfl⟩
    rw [hi1, hst, if_pos (decide_eq_true h2)]
   ·replace h2 : ¬ v = h i := h2
    conv => whnf
    (repeat' ((first | refine aI ?_ | refine a64 ?_ | refine a32 ?_ | refine a8 ?_); conv => whnf))
    refine ⟨i + 1, ⟨by omega, ?_⟩, by omega, ?_⟩
    ·rw [hi1, hst, if_neg (by simp [h2])]
    ·(conv => whnf); (refine ZAU hA ?_; conv => whnf); exact zI
  ·obtain rfl : i = m := by omega
   conv => whnf
   (refine ZAC ?_; conv => whnf); refine ⟨rfl, rfl, rfl, ZBB ?_, ZAD, rfl⟩
   rw [hi1, Nat.sub_self]
   rfl
theorem ZDf (v : Int) (h : Nat -> Int) (m : Nat) (hm : m <= 1000000) :
  ZAH Tryz.prog 123 [(0, some (.ro 1 m (numE h)))] 1 [.l (.s 0 1 0 m 0), .l (.v (.int .i64 v))] fun x h' n => x = ZAb (anyZ (fun x => decide (v = x)) h m) /\ n = 1 /\ h' = [] := by
 have hi := ZMB v h m hm
 have he := ZH2 (fun x => decide (v = x)) h m 0
 simp only [Nat.zero_add] at he
 refine sE Tryz.func123 ic123_eq [.t 4] fun G hP hA => ?_
 unfold evF ic123
 conv => whnf
 (refine ZAA hP (hi) ?_; (conv => whnf); refine zA ?_; conv => whnf)
 (refine ZAC ?_; conv => whnf); refine ⟨rfl, rfl, rfl, ZAr ?_, ZAD, rfl⟩
 rw [Bool.eq_iff_iff, decide_eq_true_iff]
 exact he
def sizN : Nat -> Int
 | 0 => 1
 | 1 => 2
 | 2 => 4
 | 3 => 8
 | 4 => 16
 | 5 => 32
 | 6 => 64
 | _ => 128
theorem ZDg {a b : Int} {K : Int -> Prop} (h : IntKind.i64.wrap (a * 2 ^ (min (1 : Int).toNat IntKind.i64.bits)) = b) (hk : K b) : ShlP .i64 a 1 K := ⟨⟨by decide, by rw [h]; exact hk⟩⟩
theorem ZMC : ZAH Tryz.prog 132 [] 0 [] fun x h n => x = .o (.l (.s 0 1 0 7 0)) /\ n = 1 /\ h = [(0, some (.ar 1 7 (numE sizN)))] := by
 refine sE Tryz.func132 ic132_eq [.t 0] fun G hP hA => ?_
 unfold evF ic132
 conv => whnf
 refine ZAn (α := Nat) (ds := []) (N := 1) (fun i => [(1, .o (.l (.s 0 1 0 i 0))), (2, sInt .i64 (sizN i))]) [] (fun i => [(0, some (.ar 1 i (numE sizN)))])
  (fun i => i <= 7) (fun i => 7 - i) 0 (Nat.zero_le _) ?_ fun i hi => ?_
 ·conv => whnf
  refine Imp.trans (ZOM 1 1 (numE sizN) rfl) ?_
  (conv => whnf); (refine ZAU hA ?_; conv => whnf); exact zI
 ·rcases (show i = 0 \/ i = 1 \/ i = 2 \/ i = 3 \/ i = 4 \/ i = 5 \/ i = 6 \/ i = 7 by omega) with rfl | rfl | rfl | rfl | rfl | rfl | rfl | rfl
  ·conv => whnf
   (repeat' ((first | refine aI ?_ | refine a64 ?_ | refine a32 ?_ | refine a8 ?_); conv => whnf))
   refine ZDg (b := sizN 1) (by decide +kernel) ?_
   conv => whnf
   refine ⟨1, by omega, by omega, ?_⟩
   (conv => whnf); (refine ZAU hA ?_; conv => whnf); refine ⟨rfl, rfl, rfl, ZAe, ?_, rfl⟩
   refine And.intro (And.intro rfl (And.intro rfl fun j hj => ?_)) ZAD
   obtain rfl : j = 0 := by omega
   rfl
  ·conv => whnf
   (repeat' ((first | refine aI ?_ | refine a64 ?_ | refine a32 ?_ | refine a8 ?_); conv => whnf))
   refine ZDg (b := sizN 2) (by decide +kernel) ?_
   conv => whnf
   refine ⟨2, by omega, by omega, ?_⟩
   (conv => whnf); (refine ZAU hA ?_; conv => whnf); refine ⟨rfl, rfl, rfl, ZAe, ?_, rfl⟩
   refine And.intro (And.intro rfl (And.intro rfl fun j hj => ?_)) ZAD
   exact ZAx (f := numE sizN) (i := 1) rfl j hj
  ·conv => whnf
   (repeat' ((first | refine aI ?_ | refine a64 ?_ | refine a32 ?_ | refine a8 ?_); conv => whnf))
   refine ZDg (b := sizN 3) (by decide +kernel) ?_
   conv => whnf
   refine ⟨3, by omega, by omega, ?_⟩
   (conv => whnf); (refine ZAU hA ?_; conv => whnf); refine ⟨rfl, rfl, rfl, ZAe, ?_, rfl⟩
   refine And.intro (And.intro rfl (And.intro rfl fun j hj => ?_)) ZAD
   exact ZAx (f := numE sizN) (i := 2) rfl j hj
  ·conv => whnf
   (repeat' ((first | refine aI ?_ | refine a64 ?_ | refine a32 ?_ | refine a8 ?_); conv => whnf))
   refine ZDg (b := sizN 4) (by decide +kernel) ?_
   conv => whnf
   refine ⟨4, by omega, by omega, ?_⟩
   (conv => whnf); (refine ZAU hA ?_; conv => whnf); refine ⟨rfl, rfl, rfl, ZAe, ?_, rfl⟩
   refine And.intro (And.intro rfl (And.intro rfl fun j hj => ?_)) ZAD
   exact ZAx (f := numE sizN) (i := 3) rfl j hj
  ·conv => whnf
   (repeat' ((first | refine aI ?_ | refine a64 ?_ | refine a32 ?_ | refine a8 ?_); conv => whnf))
   refine ZDg (b := sizN 5) (by decide +kernel) ?_
   conv => whnf
   refine ⟨5, by omega, by omega, ?_⟩
   (conv => whnf); (refine ZAU hA ?_; conv => whnf); refine ⟨rfl, rfl, rfl, ZAe, ?_, rfl⟩
   refine And.intro (And.intro rfl (And.intro rfl fun j hj => ?_)) ZAD
   exact ZAx (f := numE sizN) (i := 4) rfl j hj
  ·conv => whnf
   (repeat' ((first | refine aI ?_ | refine a64 ?_ | refine a32 ?_ | refine a8 ?_); conv => whnf))
   refine ZDg (b := sizN 6) (by decide +kernel) ?_
   conv => whnf
   refine ⟨6, by omega, by omega, ?_⟩
   (conv => whnf); (refine ZAU hA ?_; conv => whnf); refine ⟨rfl, rfl, rfl, ZAe, ?_, rfl⟩
   refine And.intro (And.intro rfl (And.intro rfl fun j hj => ?_)) ZAD
   exact ZAx (f := numE sizN) (i := 5) rfl j hj
  ·conv => whnf
   (repeat' ((first | refine aI ?_ | refine a64 ?_ | refine a32 ?_ | refine a8 ?_); conv => whnf))
   refine ZDg (b := sizN 7) (by decide +kernel) ?_
   conv => whnf
   refine ⟨7, by omega, by omega, ?_⟩
   (conv => whnf); (refine ZAU hA ?_; conv => whnf); refine ⟨rfl, rfl, rfl, ZAe, ?_, rfl⟩
   refine And.intro (And.intro rfl (And.intro rfl fun j hj => ?_)) ZAD
   exact ZAx (f := numE sizN) (i := 6) rfl j hj
  ·conv => whnf
   (repeat' ((first | refine aI ?_ | refine a64 ?_ | refine a32 ?_ | refine a8 ?_); conv => whnf))
   (refine ZAC ?_; conv => whnf); exact zF

theorem ZEi (n : Nat) (ws hs : Nat -> Int) : ZAH Tryz.prog 62 [(0, some (memP n ws hs))] 1 [.l (.p 0 0 0 0)] fun x h k => x = sInt .i64 (n : Int) /\ k = 1 /\ h = [(0, some (memP n ws hs))] := by
 refine sG (ZAf (memH n ws hs) 3 0 (by omega)) Tryz.func62 ic62_eq [.t 2] fun G hP hA => ?_
 unfold evF ic62
 conv => whnf
 (refine ZAG (H := (memH n ws hs)) (np := 3) 0 0 (Nat.le_of_ble_eq_true rfl) ?_; conv => whnf); (refine zK ?_)
 (refine ZAC ?_; conv => whnf); exact zF
theorem ZPs : ExtA Tryz.prog 98 (Extern.Atomic.loadT (.int .u32)) := ⟨_, Tryz.func98, by kernel_rfl, by kernel_rfl, by kernel_rfl, by kernel_rfl⟩
theorem ZQq : ExtA Tryz.prog 230 (Extern.Atomic.update (Op.intArith .add) .u32 true) := ⟨_, Tryz.func230, by kernel_rfl, by kernel_rfl, by kernel_rfl, by kernel_rfl⟩
theorem ZPt : ExtA Tryz.prog 242 (Extern.Atomic.swapT (.int .u32)) := ⟨_, Tryz.func242, by kernel_rfl, by kernel_rfl, by kernel_rfl, by kernel_rfl⟩
theorem ZPI : ExtA Tryz.prog 251 (Extern.Atomic.casT (.int .u32)) := ⟨_, Tryz.func251, by kernel_rfl, by kernel_rfl, by kernel_rfl, by kernel_rfl⟩
theorem ZMG (n i : Nat) (ws : Nat -> Int) (hi : i < n) :
  ZAH Tryz.prog 57 [(0, some (.ar 1 n (ZCj ws)))] 1 [.l (.p 0 1 i 0)] fun x h k => x = sInt .u32 (ws i) /\ k = 1 /\ h = [(0, some (.ar 1 n (ZCj ws)))] := by
 refine sE Tryz.func57 ic57_eq [.t 2] fun G hP hA => ?_
 unfold evF ic57
 conv => whnf
 refine ZN5 (q := .u32) (x := ws i) (hP ▸ ZPs) rfl rfl hi (by omega) rfl ?_
 conv => whnf
 (refine ZAC ?_; conv => whnf); exact zF
theorem ZMH (n i : Nat) (ws : Nat -> Int) (v : Int) (hi : i < n) :
  ZAH Tryz.prog 241 [(0, some (.ar 1 n (ZCj ws)))] 1 [.l (.p 0 1 i 0), .l (.v (.int .u32 v))] fun x h k => x = sInt .u32 (ws i) /\ k = 1 /\ h = [(0, some (.ar 1 n (ZCj (updF ws i v))))] := by
 refine sE Tryz.func241 ic241_eq [.t 4] fun G hP hA => ?_
 unfold evF ic241
 conv => whnf
 refine ZOA (q := .u32) (x := ws i) (hP ▸ ZPt) rfl rfl rfl hi (by omega) rfl ?_
 conv => whnf
 refine ⟨hi, ?_⟩
 conv => whnf
 (refine ZAC ?_; conv => whnf); refine ⟨rfl, rfl, rfl, ?_, ?_, rfl⟩
 ·rfl
 ·refine ⟨⟨rfl, rfl, fun j hj => updE ws i v j⟩, trivial⟩
def addW (x d : Int) : Int := IntKind.u32.wrap (x + d)
theorem ZNm (n i : Nat) (ws : Nat -> Int) (d : Int) (hi : i < n) :
  ZAH Tryz.prog 228 [(0, some (.ar 1 n (ZCj ws)))] 1 [.l (.p 0 1 i 0), .l (.v (.int .u32 d))] fun x h k => x = sInt .u32 (addW (ws i) d) /\ k = 1 /\ h = [(0, some (.ar 1 n (ZCj (updF ws i (addW (ws i) d)))))] := by
 refine sE Tryz.func228 ic228_eq [.t 4] fun G hP hA => ?_
 unfold evF ic228
 conv => whnf
 refine ZO7 (q := .u32) (x := ws i) (hP ▸ ZQq) rfl rfl rfl hi (by omega) rfl ?_
 conv => whnf
 refine ⟨hi, ?_⟩
 conv => whnf
 (refine ZAC ?_; conv => whnf); refine ⟨rfl, rfl, rfl, ?_, ?_, rfl⟩
 ·rfl
 ·refine ⟨⟨rfl, rfl, fun j hj => updE ws i (addW (ws i) d) j⟩, trivial⟩
theorem ZOt (n i : Nat) (ws : Nat -> Int) (v : Int) (hi : i < n) :
  ZAH Tryz.prog 250 [(0, some (.ar 1 n (ZCj ws)))] 1 [.l (.p 0 1 i 0), .l (.v (.int .u32 (ws i))), .l (.v (.int .u32 v))] fun x h k => x = ZAb true /\ k = 1 /\ h = [(0, some (.ar 1 n (ZCj (updF ws i v))))] := by
 refine sE Tryz.func250 ic250_eq [.t 6] fun G hP hA => ?_
 unfold evF ic250
 conv => whnf
 refine ZO8 (q := .u32) (x := ws i) (hP ▸ ZPI) rfl rfl rfl rfl hi (by omega) rfl ?_
 conv => whnf
 refine ⟨hi, ?_⟩
 conv => whnf
 (refine ZAC ?_; conv => whnf); refine ⟨rfl, rfl, rfl, ?_, ?_, rfl⟩
 ·rfl
 ·refine ⟨⟨rfl, rfl, fun j hj => updE ws i v j⟩, trivial⟩
theorem ZNn (n i : Nat) (ws : Nat -> Int) (o v : Int) (hi : i < n) (ho : ¬ ws i = o) :
  ZAH Tryz.prog 250 [(0, some (.ar 1 n (ZCj ws)))] 1 [.l (.p 0 1 i 0), .l (.v (.int .u32 o)), .l (.v (.int .u32 v))] fun x h k => x = ZAb false /\ k = 1 /\ h = [(0, some (.ar 1 n (ZCj ws)))] := by
 refine sE Tryz.func250 ic250_eq [.t 6] fun G hP hA => ?_
 unfold evF ic250
 conv => whnf
 refine ZOB (q := .u32) (x := ws i) (hP ▸ ZPI) rfl rfl rfl rfl hi (by omega) rfl ho ?_
 conv => whnf
 (refine ZAC ?_; conv => whnf); exact zF
theorem ZMI (n i : Nat) (ws hs : Nat -> Int) (hi : i < n) (hn : n <= 1000000) :
  ZAH Tryz.prog 224 [(0, some (memP n ws hs))] 1 [.l (.p 0 0 0 0), .l (.v (.int .i64 i))] fun x h k => x = sInt .u32 (ws i) /\ k = 1 /\ h = [(0, some (memP n ws hs))] := by
 have ha := ZEC n i ws hs hi hn
 have hs' := ZMG n i ws hi
 refine sG (ZAf (memH n ws hs) 3 0 (by omega)) Tryz.func224 ic224_eq [.t 4] fun G hP hA => ?_
 unfold evF ic224
 conv => whnf
 (refine ZAA hP (ha) ?_; (conv => whnf); refine zA ?_; conv => whnf)
 (refine ZAA hP (hs') ?_; (conv => whnf); refine zA ?_; conv => whnf)
 (refine ZAG (H := (memH n ws hs)) (np := 3) 0 0 (Nat.le_of_ble_eq_true rfl) ?_; conv => whnf); (refine zK ?_)
 (refine ZAC ?_; conv => whnf); exact zF
theorem ZMJ (n i : Nat) (ws hs : Nat -> Int) (v : Int) (hi : i < n) (hn : n <= 1000000) :
  ZAH Tryz.prog 240 [(0, some (memP n ws hs))] 1 [.l (.p 0 0 0 0), .l (.v (.int .i64 i)), .l (.v (.int .u32 v))] fun x h k => x = sInt .u32 (ws i) /\ k = 1 /\ h = [(0, some (memP n (updF ws i v) hs))] := by
 have ha := ZEC n i ws hs hi hn
 have hs' := ZMH n i ws v hi
 refine sG (ZAf (memH n ws hs) 3 0 (by omega)) Tryz.func240 ic240_eq [.t 6] fun G hP hA => ?_
 unfold evF ic240
 conv => whnf
 (refine ZAA hP (ha) ?_; (conv => whnf); refine zA ?_; conv => whnf)
 (refine ZAA hP (hs') ?_; (conv => whnf); refine zA ?_; conv => whnf)
 (refine ZAG (H := (memH n (updF ws i v) hs)) (np := 3) 0 0 (Nat.le_of_ble_eq_true rfl) ?_; conv => whnf); (refine zK ?_)
 (refine ZAC ?_; conv => whnf); exact zF
theorem ZNo (n i : Nat) (ws hs : Nat -> Int) (d : Int) (hi : i < n) (hn : n <= 1000000) :
  ZAH Tryz.prog 226 [(0, some (memP n ws hs))] 1 [.l (.p 0 0 0 0), .l (.v (.int .i64 i)), .l (.v (.int .u32 d))] fun x h k => x = sInt .u32 (addW (addW (ws i) d) (-d)) /\ k = 1 /\ h = [(0, some (memP n (updF ws i (addW (ws i) d)) hs))] := by
 have ha := ZEC n i ws hs hi hn
 have hs' := ZNm n i ws d hi
 refine sG (ZAf (memH n ws hs) 3 0 (by omega)) Tryz.func226 ic226_eq [.t 6] fun G hP hA => ?_
 unfold evF ic226
 conv => whnf
 (refine ZAA hP (ha) ?_; (conv => whnf); refine zA ?_; conv => whnf)
 (refine ZAA hP (hs') ?_; (conv => whnf); refine zA ?_; conv => whnf)
 refine arW ?_
 conv => whnf
 (refine ZAG (H := (memH n (updF ws i (addW (ws i) d)) hs)) (np := 3) 0 0 (Nat.le_of_ble_eq_true rfl) ?_; conv => whnf); (refine zK ?_)
 (refine ZAC ?_; conv => whnf); exact zF
theorem ZMK (n i : Nat) (ws hs : Nat -> Int) (v : Int) (hi : i < n) (hn : n <= 1000000) :
  ZAH Tryz.prog 249 [(0, some (memP n ws hs))] 1 [.l (.p 0 0 0 0), .l (.v (.int .i64 i)), .l (.v (.int .u32 (ws i))), .l (.v (.int .u32 v))] fun x h k => x = ZAb true /\ k = 1 /\ h = [(0, some (memP n (updF ws i v) hs))] := by
 have ha := ZEC n i ws hs hi hn
 have hs' := ZOt n i ws v hi
 refine sG (ZAf (memH n ws hs) 3 0 (by omega)) Tryz.func249 ic249_eq [.t 8] fun G hP hA => ?_
 unfold evF ic249
 conv => whnf
 (refine ZAA hP (ha) ?_; (conv => whnf); refine zA ?_; conv => whnf)
 (refine ZAA hP (hs') ?_; (conv => whnf); refine zA ?_; conv => whnf)
 (refine ZAG (H := (memH n (updF ws i v) hs)) (np := 3) 0 0 (Nat.le_of_ble_eq_true rfl) ?_; conv => whnf); (refine zK ?_)
 (refine ZAC ?_; conv => whnf); exact zF
theorem ZKl (n i : Nat) (ws hs : Nat -> Int) (o v : Int) (hi : i < n) (hn : n <= 1000000) (ho : ¬ ws i = o) :
  ZAH Tryz.prog 249 [(0, some (memP n ws hs))] 1 [.l (.p 0 0 0 0), .l (.v (.int .i64 i)), .l (.v (.int .u32 o)), .l (.v (.int .u32 v))] fun x h k => x = ZAb false /\ k = 1 /\ h = [(0, some (memP n ws hs))] := by
 have ha := ZEC n i ws hs hi hn
 have hs' := ZNn n i ws o v hi ho
 refine sG (ZAf (memH n ws hs) 3 0 (by omega)) Tryz.func249 ic249_eq [.t 8] fun G hP hA => ?_
 unfold evF ic249
 conv => whnf
 (refine ZAA hP (ha) ?_; (conv => whnf); refine zA ?_; conv => whnf)
 (refine ZAA hP (hs') ?_; (conv => whnf); refine zA ?_; conv => whnf)
 (refine ZAG (H := (memH n ws hs)) (np := 3) 0 0 (Nat.le_of_ble_eq_true rfl) ?_; conv => whnf); (refine zK ?_)
 (refine ZAC ?_; conv => whnf); exact zF
def ownB (t : Nat) : Int := IntKind.u64.wrap (1 * 2 ^ (min ((t : Int)).toNat IntKind.u64.bits))
def orB (a b : Int) : Int := bitZ .or .u64 a b
def incZ (x : Int) : Int := IntKind.i64.wrap (x + 1)
def ZG5 (cp : Nat -> Int) (t a : Nat) : Bool := decide (bitZ .and .u64 (cp a) (ownB t) = 0)
def ZE6 (cp : Nat -> Int) (t a : Nat) : Bool := decide (cp a ≠ ownB t)
def msT (b : Bool) (ms : Nat -> Int) (t : Nat) : Nat -> Int := match b with | true => updF ms t (incZ (ms t)) | false => ms
theorem updC (f : Nat -> Int) (i : Nat) (v : Int) (j : Nat) : mrgL (j = i) (ZAL (ZNd f j) 0 [.int .u64 v]) (ZNd f j) = ZNd (updF f i v) j := by
 simp only [ZNd, updF, ZAL, setL, mrgL, ZBJ]
 by_cases h : j = i <;> simp [h]
theorem updM (f : Nat -> Int) (i : Nat) (v : Int) (j : Nat) : mrgL (j = i) (ZAL (numE f j) 0 [.int .i64 v]) (numE f j) = numE (updF f i v) j := by
 simp only [numE, updF, ZAL, setL, mrgL, ZBJ]
 by_cases h : j = i <;> simp [h]
theorem ZPJ {t : Nat} {K : Int -> Prop} (h : K (ownB t)) : ShlP .u64 1 (t : Int) K := by rw [ZAP]; exact ⟨by omega, h⟩
theorem ZE7 (nw nt : Nat) (cp ms : Nat -> Int) (t a : Nat) (ht : t < nt) (ha : a < nw) (hnt : nt <= 64) (hnw : nw <= 4096) :
  ZAH Tryz.prog 229 (ZEQ nw nt cp ms) 3 [.l (.p 0 0 0 0), .l (.v (.int .i64 t)), .l (.v (.int .i64 a))] fun x h k => x = ZAb true /\ k = 3 /\ h = ZEQ nw nt cp ms := by
 refine sE Tryz.func229 ic229_eq [.t 6] fun G hP hA => ?_
 unfold evF ic229
 conv => whnf
 (repeat' (first | (refine ZAE ?_; conv => whnf) | (refine dsplit (fun _ => ?_) (fun _ => ?_) <;> conv => whnf)))
 all_goals first | (exfalso; omega) | skip
 (refine ZAC ?_; conv => whnf); refine ⟨rfl, rfl, rfl, ZAr ?_, ZAD, rfl⟩
 simp; omega
theorem ZA8 (f : Nat -> Int) (i : Nat) (u v : Int) : updF (updF f i u) i v = updF f i v := by
 funext j
 simp only [updF]
 by_cases h : j = i <;> simp [h]
theorem ZKm (nw nt : Nat) (cp ms : Nat -> Int) (t a : Nat) (ht : t < nt) (ha : a < nw) (hnt : nt <= 64) (hnw : nw <= 4096) :
  ZAH Tryz.prog 227 [(0, some (ZHJ nw nt cp ms))] 1 [.l (.p 0 0 0 0), .l (.v (.int .i64 t)), .l (.v (.int .i64 a)), .l (.v (.bool false))] fun x h k =>
   x = ZAb (ZG5 cp t a) /\ k = 1 /\ h = [(0, some (ZHJ nw nt (updF cp a (orB (cp a) (ownB t))) (msT (ZG5 cp t a) ms t)))] := by
 have hth := ZE7 nw nt cp ms t a ht ha hnt hnw
 have hna : nadd 0 ((a : Int)).toNat = a := by simp [ZAI]
 have hnt : nadd 0 ((t : Int)).toNat = t := by simp [ZAI]
 refine sG (ZAf (ZEQ nw nt cp ms) 3 0 (by omega)) Tryz.func227 ic227_eq [.t 8] fun G hP hA => ?_
 unfold evF ic227
 conv => whnf
 (refine ZAA hP (hth) ?_; (conv => whnf); refine zA ?_; conv => whnf)
 refine ZPJ ?_
 conv => whnf
 (repeat' ((first | refine aI ?_ | refine a64 ?_ | refine a32 ?_ | refine a8 ?_); conv => whnf))
 (refine ZAE ?_; conv => whnf)
 conv => whnf
 (repeat' ((first | refine aI ?_ | refine a64 ?_ | refine a32 ?_ | refine a8 ?_); conv => whnf))
 (refine ZAE ?_; conv => whnf)
 conv => whnf
 refine dsplit (fun hq => ?_) (fun hq => ?_)
 ·conv => whnf
  (repeat' ((first | refine aI ?_ | refine a64 ?_ | refine a32 ?_ | refine a8 ?_); conv => whnf))
  refine arW ?_
  conv => whnf
  (repeat' ((first | refine aI ?_ | refine a64 ?_ | refine a32 ?_ | refine a8 ?_); conv => whnf))
  rw [hna, hnt]
  have e : ZG5 cp t a = true := decide_eq_true hq
  (refine ZAG (H := (ZEQ nw nt (updF cp a (orB (cp a) (ownB t))) (msT (ZG5 cp t a) ms t))) (np := 3) 0 0 (Nat.le_of_ble_eq_true rfl) ?_; conv => whnf); (refine ⟨⟨rfl, by omega, rfl, rfl, ?_, rfl⟩, ?_⟩)
  ·exact ⟨rfl, ⟨rfl, rfl, fun j hj => updC cp a _ j⟩, ⟨rfl, rfl, fun j hj => by rw [e]; exact updM ms t _ j⟩, trivial⟩
  conv => whnf
  (refine ZAC ?_; conv => whnf); exact zF
 ·conv => whnf
  rw [hna]
  have e : ZG5 cp t a = false := decide_eq_false hq
  (refine ZAG (H := (ZEQ nw nt (updF cp a (orB (cp a) (ownB t))) (msT (ZG5 cp t a) ms t))) (np := 3) 0 0 (Nat.le_of_ble_eq_true rfl) ?_; conv => whnf); (refine ⟨⟨rfl, by omega, rfl, rfl, ?_, rfl⟩, ?_⟩)
  ·exact ⟨rfl, ⟨rfl, rfl, fun j hj => updC cp a _ j⟩, ⟨rfl, rfl, fun j hj => by rw [e]; rfl⟩, trivial⟩
  conv => whnf
  (refine ZAC ?_; conv => whnf); exact zF
theorem ZKn (nw nt : Nat) (cp ms : Nat -> Int) (t a : Nat) (ht : t < nt) (ha : a < nw) (hnt : nt <= 64) (hnw : nw <= 4096) :
  ZAH Tryz.prog 227 [(0, some (ZHJ nw nt cp ms))] 1 [.l (.p 0 0 0 0), .l (.v (.int .i64 t)), .l (.v (.int .i64 a)), .l (.v (.bool true))] fun x h k =>
   x = ZAb (ZE6 cp t a) /\ k = 1 /\ h = [(0, some (ZHJ nw nt (updF cp a (ownB t)) (msT (ZE6 cp t a) ms t)))] := by
 have hth := ZE7 nw nt cp ms t a ht ha hnt hnw
 have hna : nadd 0 ((a : Int)).toNat = a := by simp [ZAI]
 have hnt : nadd 0 ((t : Int)).toNat = t := by simp [ZAI]
 refine sG (ZAf (ZEQ nw nt cp ms) 3 0 (by omega)) Tryz.func227 ic227_eq [.t 8] fun G hP hA => ?_
 unfold evF ic227
 conv => whnf
 (refine ZAA hP (hth) ?_; (conv => whnf); refine zA ?_; conv => whnf)
 refine ZPJ ?_
 conv => whnf
 (repeat' ((first | refine aI ?_ | refine a64 ?_ | refine a32 ?_ | refine a8 ?_); conv => whnf))
 (refine ZAE ?_; conv => whnf)
 conv => whnf
 (repeat' ((first | refine aI ?_ | refine a64 ?_ | refine a32 ?_ | refine a8 ?_); conv => whnf))
 (refine ZAE ?_; conv => whnf)
 conv => whnf
 refine dsplit (fun hq => ?_) (fun hq => ?_)
 ·conv => whnf
  (repeat' ((first | refine aI ?_ | refine a64 ?_ | refine a32 ?_ | refine a8 ?_); conv => whnf))
  refine arW ?_
  conv => whnf
  (repeat' ((first | refine aI ?_ | refine a64 ?_ | refine a32 ?_ | refine a8 ?_); conv => whnf))
  rw [hna, hnt]
  have e : ZE6 cp t a = true := decide_eq_true hq
  (refine ZAG (H := (ZEQ nw nt (updF cp a (ownB t)) (msT (ZE6 cp t a) ms t))) (np := 3) 0 0 (Nat.le_of_ble_eq_true rfl) ?_; conv => whnf); (refine ⟨⟨rfl, by omega, rfl, rfl, ?_, rfl⟩, ?_⟩)
  ·exact ⟨rfl, ⟨rfl, rfl, fun j hj => by simp only [updC, ZA8]⟩, ⟨rfl, rfl, fun j hj => by rw [e]; exact updM ms t _ j⟩, trivial⟩
  conv => whnf
  (refine ZAC ?_; conv => whnf); exact zF
 ·conv => whnf
  rw [hna]
  have e : ZE6 cp t a = false := decide_eq_false hq
  (refine ZAG (H := (ZEQ nw nt (updF cp a (ownB t)) (msT (ZE6 cp t a) ms t))) (np := 3) 0 0 (Nat.le_of_ble_eq_true rfl) ?_; conv => whnf); (refine ⟨⟨rfl, by omega, rfl, rfl, ?_, rfl⟩, ?_⟩)
  ·exact ⟨rfl, ⟨rfl, rfl, fun j hj => by simp only [updC, ZA8]⟩, ⟨rfl, rfl, fun j hj => by rw [e]; rfl⟩, trivial⟩
  conv => whnf
  (refine ZAC ?_; conv => whnf); exact zF
theorem ZQr (f g : Nat -> Int) (i : Nat) (v : Int) (j : Nat) : mrgL (j = i) (ZAL (ZE4 f g j) 0 [.int .i64 v]) (ZE4 f g j) = ZE4 (updF f i v) g j := by
 simp only [ZE4, updF, ZAL, setL, mrgL, ZBJ]
 by_cases h : j = i <;> simp [h]
theorem ZRC (f g : Nat -> Int) (i : Nat) (v : Int) (j : Nat) : mrgL (j = i) (ZAL (ZE4 f g j) 1 [.int .i64 v]) (ZE4 f g j) = ZE4 f (updF g i v) j := by
 simp only [ZE4, updF, ZAL, setL, mrgL, ZBJ]
 by_cases h : j = i <;> simp [h]
theorem ZQs (f g : Nat -> Int) (i : Nat) (u : Int) (j : Nat) :
  mrgL (j = i) (ZAL (mrgL (j = i) (ZAL (ZE4 f g j) 0 [.int .i64 u]) (ZE4 f g j)) 1 [.int .i64 (IntKind.i64.wrap ((if i = i then g i else g i) + 1))]) (mrgL (j = i) (ZAL (ZE4 f g j) 0 [.int .i64 u]) (ZE4 f g j)) = ZE4 (updF f i u) (updF g i (incZ (g i))) j := by
 rw [ite_self, ZQr, ZRC]
 rfl
theorem ZML (nt nw : Nat) (ws hs cp ms ac wr : Nat -> Int) (t a : Nat) (ht : t < nt) (ha : a < nw) (hnt : nt <= 64) (hnw : nw <= 4096) :
  ZAH Tryz.prog 223 (ZBp nt nw ws hs cp ms ac wr) 4 [.l (.p 0 0 0 0), .l (.v (.int .i64 t)), .l (.v (.int .i64 a)), .l (.v (.bool false))] fun x h k =>
   x = ZAb true /\ k = 4 /\ h = ZBp nt nw ws hs (updF cp a (orB (cp a) (ownB t))) (msT (ZG5 cp t a) ms t) (updF ac t (incZ (ac t))) wr := by
 have hml := ZEi nw ws hs
 have hct := ZKm nw nt cp ms t a ht ha hnt hnw
 have hna : nadd 0 ((a : Int)).toNat = a := by simp [ZAI]
 have hnt' : nadd 0 ((t : Int)).toNat = t := by simp [ZAI]
 refine sE Tryz.func223 ic223_eq [.t 8] fun G hP hA => ?_
 unfold evF ic223
 conv => whnf
 (repeat' (first | (refine ZAE ?_; conv => whnf) | (refine dsplit (fun _ => ?_) (fun _ => ?_) <;> conv => whnf)))
 all_goals first | (exfalso; omega) | skip
 (refine ZAA hP (hml) ?_; (conv => whnf); refine zA ?_; conv => whnf)
 (repeat' (first | (refine ZAE ?_; conv => whnf) | (refine dsplit (fun _ => ?_) (fun _ => ?_) <;> conv => whnf)))
 all_goals first | (exfalso; omega) | skip
 (refine dI hP ?_; conv => whnf)
 (repeat' ((first | refine aI ?_ | refine a64 ?_ | refine a32 ?_ | refine a8 ?_); conv => whnf))
 refine arW ?_
 conv => whnf
 (repeat' ((first | refine aI ?_ | refine a64 ?_ | refine a32 ?_ | refine a8 ?_); conv => whnf))
 (repeat (refine oI ?_; conv => whnf))
 (refine ZAE ?_; conv => whnf)
 conv => whnf
 (refine ZAA hP (hct) ?_; (conv => whnf); refine zA ?_; conv => whnf)
 rw [hnt']
 (refine ZAC ?_; conv => whnf); refine ⟨rfl, rfl, rfl, ?_, ?_, rfl⟩
 ·rfl
 ·exact ⟨rfl, ZAD, ZAD, ⟨rfl, rfl, fun j hj => ZQr ac wr t _ j⟩, trivial⟩
theorem ZDa (nt nw : Nat) (ws hs cp ms ac wr : Nat -> Int) (t a : Nat) (ht : t < nt) (ha : a < nw) (hnt : nt <= 64) (hnw : nw <= 4096) :
  ZAH Tryz.prog 223 (ZBp nt nw ws hs cp ms ac wr) 4 [.l (.p 0 0 0 0), .l (.v (.int .i64 t)), .l (.v (.int .i64 a)), .l (.v (.bool true))] fun x h k =>
   x = ZAb true /\ k = 4 /\ h = ZBp nt nw ws hs (updF cp a (ownB t)) (msT (ZE6 cp t a) ms t) (updF ac t (incZ (ac t))) (updF wr t (incZ (wr t))) := by
 have hml := ZEi nw ws hs
 have hct := ZKn nw nt cp ms t a ht ha hnt hnw
 have hna : nadd 0 ((a : Int)).toNat = a := by simp [ZAI]
 have hnt' : nadd 0 ((t : Int)).toNat = t := by simp [ZAI]
 refine sE Tryz.func223 ic223_eq [.t 8] fun G hP hA => ?_
 unfold evF ic223
 conv => whnf
 (repeat' (first | (refine ZAE ?_; conv => whnf) | (refine dsplit (fun _ => ?_) (fun _ => ?_) <;> conv => whnf)))
 all_goals first | (exfalso; omega) | skip
 (refine ZAA hP (hml) ?_; (conv => whnf); refine zA ?_; conv => whnf)
 (repeat' (first | (refine ZAE ?_; conv => whnf) | (refine dsplit (fun _ => ?_) (fun _ => ?_) <;> conv => whnf)))
 all_goals first | (exfalso; omega) | skip
 (refine dI hP ?_; conv => whnf)
 (repeat' ((first | refine aI ?_ | refine a64 ?_ | refine a32 ?_ | refine a8 ?_); conv => whnf))
 refine arW ?_
 conv => whnf
 (repeat' ((first | refine aI ?_ | refine a64 ?_ | refine a32 ?_ | refine a8 ?_); conv => whnf))
 (repeat (refine oI ?_; conv => whnf))
 (refine ZAE ?_; conv => whnf)
 conv => whnf
 (refine dI hP ?_; conv => whnf)
 (repeat' ((first | refine aI ?_ | refine a64 ?_ | refine a32 ?_ | refine a8 ?_); conv => whnf))
 refine arW ?_
 conv => whnf
 (repeat' ((first | refine aI ?_ | refine a64 ?_ | refine a32 ?_ | refine a8 ?_); conv => whnf))
 (repeat (refine oI ?_; conv => whnf))
 conv => whnf
 (refine ZAA hP (hct) ?_; (conv => whnf); refine zA ?_; conv => whnf)
 rw [hnt']
 (refine ZAC ?_; conv => whnf); refine ⟨rfl, rfl, rfl, ?_, ?_, rfl⟩
 ·rfl
 ·exact ⟨rfl, ZAD, ZAD, ⟨rfl, rfl, fun j hj => ZQs ac wr t _ j⟩, trivial⟩
def ZRD (nt nw : Nat) (ws hs cp ms ac wr : Nat -> Int) (t a : Nat) : Ent := ZBg nt nw ws hs (updF cp a (orB (cp a) (ownB t))) (msT (ZG5 cp t a) ms t) (updF ac t (incZ (ac t))) wr
def ZNp (nt nw : Nat) (ws hs cp ms ac wr : Nat -> Int) (t a : Nat) : Ent := ZBg nt nw ws hs (updF cp a (ownB t)) (msT (ZE6 cp t a) ms t) (updF ac t (incZ (ac t))) (updF wr t (incZ (wr t)))
theorem ZIF (nt nw : Nat) (ws hs cp ms ac wr : Nat -> Int) (t a : Nat)  (ht : t < nt) (ha : a < nw) (hnt : nt <= 64) (hnw : nw <= 4096) :
  ZAH Tryz.prog 220 [(0, some (ZBg nt nw ws hs cp ms ac wr))] 1 [.l (.p 0 0 0 0), .l (.v (.int .i64 t)), .l (.v (.int .i64 a))] fun x h k =>
   x = sInt .u32 (ws a) /\ k = 1 /\ h = [(0, some (ZRD nt nw ws hs cp ms ac wr t a))] := by
 have htc := ZML nt nw ws hs cp ms ac wr t a ht ha hnt hnw
 have hmm := ZMI nw a ws hs ha (by omega)
 refine sG (ZAf (ZBp nt nw ws hs cp ms ac wr) 4 0 (by omega)) Tryz.func220 ic220_eq [.t 6] fun G hP hA => ?_
 unfold evF ic220
 conv => whnf
 (refine ZAA hP (htc) ?_; (conv => whnf); refine zA ?_; conv => whnf)
 (refine ZAA hP (hmm) ?_; (conv => whnf); refine zA ?_; conv => whnf)
 (refine ZAG (H := (ZBp nt nw ws hs (updF cp a (orB (cp a) (ownB t))) (msT (ZG5 cp t a) ms t) (updF ac t (incZ (ac t))) wr)) (np := 4) 0 0 (Nat.le_of_ble_eq_true rfl) ?_; conv => whnf); (refine zK ?_)
 (refine ZAC ?_; conv => whnf); exact zF
theorem ZG6 (nt nw : Nat) (ws hs cp ms ac wr : Nat -> Int) (t a : Nat) (v : Int) (ht : t < nt) (ha : a < nw) (hnt : nt <= 64) (hnw : nw <= 4096) :
  ZAH Tryz.prog 219 [(0, some (ZBg nt nw ws hs cp ms ac wr))] 1 [.l (.p 0 0 0 0), .l (.v (.int .i64 t)), .l (.v (.int .i64 a)), .l (.v (.int .u32 v))] fun x h k =>
   x = .t [] /\ k = 1 /\ h = [(0, some (ZNp nt nw (updF ws a v) hs cp ms ac wr t a))] := by
 have htc := ZDa nt nw ws hs cp ms ac wr t a ht ha hnt hnw
 have hmm := ZGP nw a ws hs v ha (by omega)
 refine sG (ZAf (ZBp nt nw ws hs cp ms ac wr) 4 0 (by omega)) Tryz.func219 ic219_eq [] fun G hP hA => ?_
 unfold evF ic219
 conv => whnf
 (refine ZAA hP (htc) ?_; (conv => whnf); refine zA ?_; conv => whnf)
 (refine ZAA hP (hmm) ?_; (conv => whnf); refine zA ?_; conv => whnf)
 (refine ZAG (H := (ZBp nt nw (updF ws a v) hs (updF cp a (ownB t)) (msT (ZE6 cp t a) ms t) (updF ac t (incZ (ac t))) (updF wr t (incZ (wr t))))) (np := 4) 0 0 (Nat.le_of_ble_eq_true rfl) ?_; conv => whnf); (refine zK ?_)
 (refine ZAC ?_; conv => whnf); exact zF
theorem ZIG (nt nw : Nat) (ws hs cp ms ac wr : Nat -> Int) (t a : Nat) (v : Int) (ht : t < nt) (ha : a < nw) (hnt : nt <= 64) (hnw : nw <= 4096) :
  ZAH Tryz.prog 239 [(0, some (ZBg nt nw ws hs cp ms ac wr))] 1 [.l (.p 0 0 0 0), .l (.v (.int .i64 t)), .l (.v (.int .i64 a)), .l (.v (.int .u32 v))] fun x h k =>
   x = sInt .u32 (ws a) /\ k = 1 /\ h = [(0, some (ZNp nt nw (updF ws a v) hs cp ms ac wr t a))] := by
 have htc := ZDa nt nw ws hs cp ms ac wr t a ht ha hnt hnw
 have hmm := ZMJ nw a ws hs v ha (by omega)
 refine sG (ZAf (ZBp nt nw ws hs cp ms ac wr) 4 0 (by omega)) Tryz.func239 ic239_eq [.t 8] fun G hP hA => ?_
 unfold evF ic239
 conv => whnf
 (refine ZAA hP (htc) ?_; (conv => whnf); refine zA ?_; conv => whnf)
 (refine ZAA hP (hmm) ?_; (conv => whnf); refine zA ?_; conv => whnf)
 (refine ZAG (H := (ZBp nt nw (updF ws a v) hs (updF cp a (ownB t)) (msT (ZE6 cp t a) ms t) (updF ac t (incZ (ac t))) (updF wr t (incZ (wr t))))) (np := 4) 0 0 (Nat.le_of_ble_eq_true rfl) ?_; conv => whnf); (refine zK ?_)
 (refine ZAC ?_; conv => whnf); exact zF
theorem ZJa (nt nw : Nat) (ws hs cp ms ac wr : Nat -> Int) (t a : Nat) (d : Int) (ht : t < nt) (ha : a < nw) (hnt : nt <= 64) (hnw : nw <= 4096) :
  ZAH Tryz.prog 222 [(0, some (ZBg nt nw ws hs cp ms ac wr))] 1 [.l (.p 0 0 0 0), .l (.v (.int .i64 t)), .l (.v (.int .i64 a)), .l (.v (.int .u32 d))] fun x h k =>
   x = sInt .u32 (addW (addW (ws a) d) (-d)) /\ k = 1 /\ h = [(0, some (ZNp nt nw (updF ws a (addW (ws a) d)) hs cp ms ac wr t a))] := by
 have htc := ZDa nt nw ws hs cp ms ac wr t a ht ha hnt hnw
 have hmm := ZNo nw a ws hs d ha (by omega)
 refine sG (ZAf (ZBp nt nw ws hs cp ms ac wr) 4 0 (by omega)) Tryz.func222 ic222_eq [.t 8] fun G hP hA => ?_
 unfold evF ic222
 conv => whnf
 (refine ZAA hP (htc) ?_; (conv => whnf); refine zA ?_; conv => whnf)
 (refine ZAA hP (hmm) ?_; (conv => whnf); refine zA ?_; conv => whnf)
 (refine ZAG (H := (ZBp nt nw (updF ws a (addW (ws a) d)) hs (updF cp a (ownB t)) (msT (ZE6 cp t a) ms t) (updF ac t (incZ (ac t))) (updF wr t (incZ (wr t))))) (np := 4) 0 0 (Nat.le_of_ble_eq_true rfl) ?_; conv => whnf); (refine zK ?_)
 (refine ZAC ?_; conv => whnf); exact zF
theorem ZKo (nt nw : Nat) (ws hs cp ms ac wr : Nat -> Int) (t a : Nat) (v : Int) (ht : t < nt) (ha : a < nw) (hnt : nt <= 64) (hnw : nw <= 4096) :
  ZAH Tryz.prog 248 [(0, some (ZBg nt nw ws hs cp ms ac wr))] 1 [.l (.p 0 0 0 0), .l (.v (.int .i64 t)), .l (.v (.int .i64 a)), .l (.v (.int .u32 (ws a))), .l (.v (.int .u32 v))] fun x h k =>
   x = ZAb true /\ k = 1 /\ h = [(0, some (ZNp nt nw (updF ws a v) hs cp ms ac wr t a))] := by
 have htc := ZDa nt nw ws hs cp ms ac wr t a ht ha hnt hnw
 have hmm := ZMK nw a ws hs v ha (by omega)
 refine sG (ZAf (ZBp nt nw ws hs cp ms ac wr) 4 0 (by omega)) Tryz.func248 ic248_eq [.t 10] fun G hP hA => ?_
 unfold evF ic248
 conv => whnf
 (refine ZAA hP (htc) ?_; (conv => whnf); refine zA ?_; conv => whnf)
 (refine ZAA hP (hmm) ?_; (conv => whnf); refine zA ?_; conv => whnf)
 (refine ZAG (H := (ZBp nt nw (updF ws a v) hs (updF cp a (ownB t)) (msT (ZE6 cp t a) ms t) (updF ac t (incZ (ac t))) (updF wr t (incZ (wr t))))) (np := 4) 0 0 (Nat.le_of_ble_eq_true rfl) ?_; conv => whnf); (refine zK ?_)
 (refine ZAC ?_; conv => whnf); exact zF
theorem ZJb (nt nw : Nat) (ws hs cp ms ac wr : Nat -> Int) (t a : Nat) (o v : Int) (ht : t < nt) (ha : a < nw) (hnt : nt <= 64) (hnw : nw <= 4096) (ho : ¬ ws a = o) :
  ZAH Tryz.prog 248 [(0, some (ZBg nt nw ws hs cp ms ac wr))] 1 [.l (.p 0 0 0 0), .l (.v (.int .i64 t)), .l (.v (.int .i64 a)), .l (.v (.int .u32 o)), .l (.v (.int .u32 v))] fun x h k =>
   x = ZAb false /\ k = 1 /\ h = [(0, some (ZNp nt nw ws hs cp ms ac wr t a))] := by
 have htc := ZDa nt nw ws hs cp ms ac wr t a ht ha hnt hnw
 have hmm := ZKl nw a ws hs o v ha (by omega) ho
 refine sG (ZAf (ZBp nt nw ws hs cp ms ac wr) 4 0 (by omega)) Tryz.func248 ic248_eq [.t 10] fun G hP hA => ?_
 unfold evF ic248
 conv => whnf
 (refine ZAA hP (htc) ?_; (conv => whnf); refine zA ?_; conv => whnf)
 (refine ZAA hP (hmm) ?_; (conv => whnf); refine zA ?_; conv => whnf)
 (refine ZAG (H := (ZBp nt nw ws hs (updF cp a (ownB t)) (msT (ZE6 cp t a) ms t) (updF ac t (incZ (ac t))) (updF wr t (incZ (wr t))))) (np := 4) 0 0 (Nat.le_of_ble_eq_true rfl) ?_; conv => whnf); (refine zK ?_)
 (refine ZAC ?_; conv => whnf); exact zF
structure PS where
 ws : Nat -> Int
 cp : Nat -> Int
 ms : Nat -> Int
 ac : Nat -> Int
 wr : Nat -> Int
def ZBO (nt nw : Nat) (hs : Nat -> Int) (s : PS) : Ent := ZBg nt nw s.ws hs s.cp s.ms s.ac s.wr
def inW (nw : Nat) (a : Int) : Bool := decide (0 <= a) && decide (a < (nw : Int))
def pick {α : Type} (b : Bool) (x y : α) : α := match b with | true => x | false => y
def rdN (t a : Nat) (s : PS) : PS := ⟨s.ws, updF s.cp a (orB (s.cp a) (ownB t)), msT (ZG5 s.cp t a) s.ms t, updF s.ac t (incZ (s.ac t)), s.wr⟩
def twN (t a : Nat) (ws : Nat -> Int) (s : PS) : PS := ⟨ws, updF s.cp a (ownB t), msT (ZE6 s.cp t a) s.ms t, updF s.ac t (incZ (s.ac t)), updF s.wr t (incZ (s.wr t))⟩
def rdS (nw t : Nat) (a : Int) (s : PS) : PS := pick (inW nw a) (rdN t a.toNat s) s
def rdV (nw : Nat) (a : Int) (s : PS) : Int := pick (inW nw a) (s.ws a.toNat) 0
def wtS (nw t : Nat) (a v : Int) (s : PS) : PS := pick (inW nw a) (twN t a.toNat (updF s.ws a.toNat v) s) s
def adV (nw : Nat) (a d : Int) (s : PS) : Int := pick (inW nw a) (addW (addW (s.ws a.toNat) d) (-d)) 0
def adS (nw t : Nat) (a d : Int) (s : PS) : PS := pick (inW nw a) (twN t a.toNat (updF s.ws a.toNat (addW (s.ws a.toNat) d)) s) s
def casB (nw : Nat) (a o : Int) (s : PS) : Bool := inW nw a && decide (s.ws a.toNat = o)
def casS (nw t : Nat) (a o v : Int) (s : PS) : PS := pick (inW nw a) (twN t a.toNat (pick (decide (s.ws a.toNat = o)) (updF s.ws a.toNat v) s.ws) s) s
theorem ZAt (nw : Nat) (a : Int) : (inW nw a = true /\ ∃ i : Nat, i < nw /\ a = (i : Int)) \/ (inW nw a = false /\ (a < 0 \/ (0 <= a /\ (nw : Int) <= a))) := by
 unfold inW
 by_cases h1 : 0 <= a
 ·by_cases h2 : a < (nw : Int)
  ·left
   refine ⟨by simp [h1, h2], a.toNat, by omega, by omega⟩
  ·right
   exact ⟨by simp [h1, h2], .inr ⟨h1, by omega⟩⟩
 ·right
  exact ⟨by simp [h1], .inl (by omega)⟩
theorem ZHg (nt nw : Nat) (ws hs cp ms ac wr : Nat -> Int) (t : Nat) (a : Int) (b : Bool) (ht : t < nt) (ha : a < 0) (hnt : nt <= 64) :
  ZAH Tryz.prog 223 (ZBp nt nw ws hs cp ms ac wr) 4 [.l (.p 0 0 0 0), .l (.v (.int .i64 t)), .l (.v (.int .i64 a)), .l (.v (.bool b))] fun x h k =>
   x = ZAb false /\ k = 4 /\ h = ZBp nt nw ws hs cp ms ac wr := by
 refine sE Tryz.func223 ic223_eq [.t 8] fun G hP hA => ?_
 unfold evF ic223
 conv => whnf
 (repeat' (first | (refine ZAE ?_; conv => whnf) | (refine dsplit (fun _ => ?_) (fun _ => ?_) <;> conv => whnf)))
 all_goals first | (exfalso; omega) | skip
 (refine ZAC ?_; conv => whnf); exact zF
theorem ZHh (nt nw : Nat) (ws hs cp ms ac wr : Nat -> Int) (t : Nat) (a : Int) (b : Bool) (ht : t < nt) (ha0 : 0 <= a) (ha : (nw : Int) <= a) (hnt : nt <= 64) :
  ZAH Tryz.prog 223 (ZBp nt nw ws hs cp ms ac wr) 4 [.l (.p 0 0 0 0), .l (.v (.int .i64 t)), .l (.v (.int .i64 a)), .l (.v (.bool b))] fun x h k =>
   x = ZAb false /\ k = 4 /\ h = ZBp nt nw ws hs cp ms ac wr := by
 have hml := ZEi nw ws hs
 refine sE Tryz.func223 ic223_eq [.t 8] fun G hP hA => ?_
 unfold evF ic223
 conv => whnf
 (repeat' (first | (refine ZAE ?_; conv => whnf) | (refine dsplit (fun _ => ?_) (fun _ => ?_) <;> conv => whnf)))
 all_goals first | (exfalso; omega) | skip
 (refine ZAA hP (hml) ?_; (conv => whnf); refine zA ?_; conv => whnf)
 (repeat' (first | (refine ZAE ?_; conv => whnf) | (refine dsplit (fun _ => ?_) (fun _ => ?_) <;> conv => whnf)))
 all_goals first | (exfalso; omega) | skip
 (refine ZAC ?_; conv => whnf); exact zF
theorem ZB9 (nt nw : Nat) (ws hs cp ms ac wr : Nat -> Int) (t : Nat) (a : Int) (b : Bool) (ht : t < nt) (ha : a < 0 \/ (0 <= a /\ (nw : Int) <= a)) (hnt : nt <= 64) :
  ZAH Tryz.prog 223 (ZBp nt nw ws hs cp ms ac wr) 4 [.l (.p 0 0 0 0), .l (.v (.int .i64 t)), .l (.v (.int .i64 a)), .l (.v (.bool b))] fun x h k =>
   x = ZAb false /\ k = 4 /\ h = ZBp nt nw ws hs cp ms ac wr := by
 rcases ha with ha | ⟨h0, ha⟩
 ·exact ZHg nt nw ws hs cp ms ac wr t a b ht ha hnt
 ·exact ZHh nt nw ws hs cp ms ac wr t a b ht h0 ha hnt
theorem ZIj (nt nw : Nat) (ws hs cp ms ac wr : Nat -> Int) (t : Nat) (a : Int) (ht : t < nt) (ha : a < 0 \/ (0 <= a /\ (nw : Int) <= a)) (hnt : nt <= 64) :
  ZAH Tryz.prog 220 [(0, some (ZBg nt nw ws hs cp ms ac wr))] 1 [.l (.p 0 0 0 0), .l (.v (.int .i64 t)), .l (.v (.int .i64 a))] fun x h k =>
   x = sInt .u32 0 /\ k = 1 /\ h = [(0, some (ZBg nt nw ws hs cp ms ac wr))] := by
 have htc := ZB9 nt nw ws hs cp ms ac wr t a false ht ha hnt
 refine sG (ZAf (ZBp nt nw ws hs cp ms ac wr) 4 0 (by omega)) Tryz.func220 ic220_eq [.t 6] fun G hP hA => ?_
 unfold evF ic220
 conv => whnf
 (refine ZAA hP (htc) ?_; (conv => whnf); refine zA ?_; conv => whnf)
 (refine ZAG (H := (ZBp nt nw ws hs cp ms ac wr)) (np := 4) 0 0 (Nat.le_of_ble_eq_true rfl) ?_; conv => whnf); (refine zK ?_)
 (refine ZAC ?_; conv => whnf); exact zF
theorem ZHi (nt nw : Nat) (ws hs cp ms ac wr : Nat -> Int) (t : Nat) (a v : Int) (ht : t < nt) (ha : a < 0 \/ (0 <= a /\ (nw : Int) <= a)) (hnt : nt <= 64) :
  ZAH Tryz.prog 219 [(0, some (ZBg nt nw ws hs cp ms ac wr))] 1 [.l (.p 0 0 0 0), .l (.v (.int .i64 t)), .l (.v (.int .i64 a)), .l (.v (.int .u32 v))] fun x h k =>
   x = .t [] /\ k = 1 /\ h = [(0, some (ZBg nt nw ws hs cp ms ac wr))] := by
 have htc := ZB9 nt nw ws hs cp ms ac wr t a true ht ha hnt
 refine sG (ZAf (ZBp nt nw ws hs cp ms ac wr) 4 0 (by omega)) Tryz.func219 ic219_eq [] fun G hP hA => ?_
 unfold evF ic219
 conv => whnf
 (refine ZAA hP (htc) ?_; (conv => whnf); refine zA ?_; conv => whnf)
 (refine ZAG (H := (ZBp nt nw ws hs cp ms ac wr)) (np := 4) 0 0 (Nat.le_of_ble_eq_true rfl) ?_; conv => whnf); (refine zK ?_)
 (refine ZAC ?_; conv => whnf); exact zF
theorem ZIk (nt nw : Nat) (ws hs cp ms ac wr : Nat -> Int) (t : Nat) (a v : Int) (ht : t < nt) (ha : a < 0 \/ (0 <= a /\ (nw : Int) <= a)) (hnt : nt <= 64) :
  ZAH Tryz.prog 239 [(0, some (ZBg nt nw ws hs cp ms ac wr))] 1 [.l (.p 0 0 0 0), .l (.v (.int .i64 t)), .l (.v (.int .i64 a)), .l (.v (.int .u32 v))] fun x h k =>
   x = sInt .u32 0 /\ k = 1 /\ h = [(0, some (ZBg nt nw ws hs cp ms ac wr))] := by
 have htc := ZB9 nt nw ws hs cp ms ac wr t a true ht ha hnt
 refine sG (ZAf (ZBp nt nw ws hs cp ms ac wr) 4 0 (by omega)) Tryz.func239 ic239_eq [.t 8] fun G hP hA => ?_
 unfold evF ic239
 conv => whnf
 (refine ZAA hP (htc) ?_; (conv => whnf); refine zA ?_; conv => whnf)
 (refine ZAG (H := (ZBp nt nw ws hs cp ms ac wr)) (np := 4) 0 0 (Nat.le_of_ble_eq_true rfl) ?_; conv => whnf); (refine zK ?_)
 (refine ZAC ?_; conv => whnf); exact zF
theorem ZJ8 (nt nw : Nat) (ws hs cp ms ac wr : Nat -> Int) (t : Nat) (a d : Int) (ht : t < nt) (ha : a < 0 \/ (0 <= a /\ (nw : Int) <= a)) (hnt : nt <= 64) :
  ZAH Tryz.prog 222 [(0, some (ZBg nt nw ws hs cp ms ac wr))] 1 [.l (.p 0 0 0 0), .l (.v (.int .i64 t)), .l (.v (.int .i64 a)), .l (.v (.int .u32 d))] fun x h k =>
   x = sInt .u32 0 /\ k = 1 /\ h = [(0, some (ZBg nt nw ws hs cp ms ac wr))] := by
 have htc := ZB9 nt nw ws hs cp ms ac wr t a true ht ha hnt
 refine sG (ZAf (ZBp nt nw ws hs cp ms ac wr) 4 0 (by omega)) Tryz.func222 ic222_eq [.t 8] fun G hP hA => ?_
 unfold evF ic222
 conv => whnf
 (refine ZAA hP (htc) ?_; (conv => whnf); refine zA ?_; conv => whnf)
 (refine ZAG (H := (ZBp nt nw ws hs cp ms ac wr)) (np := 4) 0 0 (Nat.le_of_ble_eq_true rfl) ?_; conv => whnf); (refine zK ?_)
 (refine ZAC ?_; conv => whnf); exact zF
theorem ZJ9 (nt nw : Nat) (ws hs cp ms ac wr : Nat -> Int) (t : Nat) (a o v : Int) (ht : t < nt) (ha : a < 0 \/ (0 <= a /\ (nw : Int) <= a)) (hnt : nt <= 64) :
  ZAH Tryz.prog 248 [(0, some (ZBg nt nw ws hs cp ms ac wr))] 1 [.l (.p 0 0 0 0), .l (.v (.int .i64 t)), .l (.v (.int .i64 a)), .l (.v (.int .u32 o)), .l (.v (.int .u32 v))] fun x h k =>
   x = ZAb false /\ k = 1 /\ h = [(0, some (ZBg nt nw ws hs cp ms ac wr))] := by
 have htc := ZB9 nt nw ws hs cp ms ac wr t a true ht ha hnt
 refine sG (ZAf (ZBp nt nw ws hs cp ms ac wr) 4 0 (by omega)) Tryz.func248 ic248_eq [.t 10] fun G hP hA => ?_
 unfold evF ic248
 conv => whnf
 (refine ZAA hP (htc) ?_; (conv => whnf); refine zA ?_; conv => whnf)
 (refine ZAG (H := (ZBp nt nw ws hs cp ms ac wr)) (np := 4) 0 0 (Nat.le_of_ble_eq_true rfl) ?_; conv => whnf); (refine zK ?_)
 (refine ZAC ?_; conv => whnf); exact zF
theorem ldS (nt nw : Nat) (hs : Nat -> Int) (s : PS) (t : Nat) (a : Int) (ht : t < nt) (hnt : nt <= 64) (hnw : nw <= 4096) :
  ZAH Tryz.prog 220 [(0, some (ZBO nt nw hs s))] 1 [.l (.p 0 0 0 0), .l (.v (.int .i64 t)), .l (.v (.int .i64 a))] fun x h k =>
   x = sInt .u32 (rdV nw a s) /\ k = 1 /\ h = [(0, some (ZBO nt nw hs (rdS nw t a s)))] := by
 rcases ZAt nw a with ⟨hb, i, hi, rfl⟩ | ⟨hb, ho⟩
 ·simp only [rdV, rdS, hb, pick, Int.toNat_natCast]
  exact ZIF nt nw s.ws hs s.cp s.ms s.ac s.wr t i ht hi hnt hnw
 ·simp only [rdV, rdS, hb, pick]
  exact ZIj nt nw s.ws hs s.cp s.ms s.ac s.wr t a ht ho hnt
theorem stS (nt nw : Nat) (hs : Nat -> Int) (s : PS) (t : Nat) (a v : Int) (ht : t < nt) (hnt : nt <= 64) (hnw : nw <= 4096) :
  ZAH Tryz.prog 219 [(0, some (ZBO nt nw hs s))] 1 [.l (.p 0 0 0 0), .l (.v (.int .i64 t)), .l (.v (.int .i64 a)), .l (.v (.int .u32 v))] fun x h k =>
   x = .t [] /\ k = 1 /\ h = [(0, some (ZBO nt nw hs (wtS nw t a v s)))] := by
 rcases ZAt nw a with ⟨hb, i, hi, rfl⟩ | ⟨hb, ho⟩
 ·simp only [wtS, hb, pick, Int.toNat_natCast]
  exact ZG6 nt nw s.ws hs s.cp s.ms s.ac s.wr t i v ht hi hnt hnw
 ·simp only [wtS, hb, pick]
  exact ZHi nt nw s.ws hs s.cp s.ms s.ac s.wr t a v ht ho hnt
theorem swS (nt nw : Nat) (hs : Nat -> Int) (s : PS) (t : Nat) (a v : Int) (ht : t < nt) (hnt : nt <= 64) (hnw : nw <= 4096) :
  ZAH Tryz.prog 239 [(0, some (ZBO nt nw hs s))] 1 [.l (.p 0 0 0 0), .l (.v (.int .i64 t)), .l (.v (.int .i64 a)), .l (.v (.int .u32 v))] fun x h k =>
   x = sInt .u32 (rdV nw a s) /\ k = 1 /\ h = [(0, some (ZBO nt nw hs (wtS nw t a v s)))] := by
 rcases ZAt nw a with ⟨hb, i, hi, rfl⟩ | ⟨hb, ho⟩
 ·simp only [rdV, wtS, hb, pick, Int.toNat_natCast]
  exact ZIG nt nw s.ws hs s.cp s.ms s.ac s.wr t i v ht hi hnt hnw
 ·simp only [rdV, wtS, hb, pick]
  exact ZIk nt nw s.ws hs s.cp s.ms s.ac s.wr t a v ht ho hnt
theorem adSp (nt nw : Nat) (hs : Nat -> Int) (s : PS) (t : Nat) (a d : Int) (ht : t < nt) (hnt : nt <= 64) (hnw : nw <= 4096) :
  ZAH Tryz.prog 222 [(0, some (ZBO nt nw hs s))] 1 [.l (.p 0 0 0 0), .l (.v (.int .i64 t)), .l (.v (.int .i64 a)), .l (.v (.int .u32 d))] fun x h k =>
   x = sInt .u32 (adV nw a d s) /\ k = 1 /\ h = [(0, some (ZBO nt nw hs (adS nw t a d s)))] := by
 rcases ZAt nw a with ⟨hb, i, hi, rfl⟩ | ⟨hb, ho⟩
 ·simp only [adV, adS, hb, pick, Int.toNat_natCast]
  exact ZJa nt nw s.ws hs s.cp s.ms s.ac s.wr t i d ht hi hnt hnw
 ·simp only [adV, adS, hb, pick]
  exact ZJ8 nt nw s.ws hs s.cp s.ms s.ac s.wr t a d ht ho hnt
theorem caS (nt nw : Nat) (hs : Nat -> Int) (s : PS) (t : Nat) (a o v : Int) (ht : t < nt) (hnt : nt <= 64) (hnw : nw <= 4096) :
  ZAH Tryz.prog 248 [(0, some (ZBO nt nw hs s))] 1 [.l (.p 0 0 0 0), .l (.v (.int .i64 t)), .l (.v (.int .i64 a)), .l (.v (.int .u32 o)), .l (.v (.int .u32 v))] fun x h k =>
   x = ZAb (casB nw a o s) /\ k = 1 /\ h = [(0, some (ZBO nt nw hs (casS nw t a o v s)))] := by
 rcases ZAt nw a with ⟨hb, i, hi, rfl⟩ | ⟨hb, ho⟩
 ·by_cases hc : s.ws i = o
  ·subst hc
   simp only [casB, casS, hb, pick, Int.toNat_natCast, decide_true, Bool.and_true]
   exact ZKo nt nw s.ws hs s.cp s.ms s.ac s.wr t i v ht hi hnt hnw
  ·simp only [casB, casS, hb, pick, Int.toNat_natCast, hc, decide_false, Bool.and_false]
   exact ZJb nt nw s.ws hs s.cp s.ms s.ac s.wr t i o v ht hi hnt hnw hc
 ·simp only [casB, casS, hb, pick, Bool.false_and]
  exact ZJ9 nt nw s.ws hs s.cp s.ms s.ac s.wr t a o v ht ho hnt
theorem ZFh (n : Nat) (st dl : Nat -> Int) (a b : Bool) (t : Nat) (ht : t < n) (hn : n <= 64) : ZAH Tryz.prog 216 (ZBa n st dl a b) 2 [.l (.p 0 0 0 0), .l (.v (.int .i64 t))] fun x h k => x = ZAb true /\ k = 2 /\ h = ZBa n st dl a b := by
 refine sE Tryz.func216 ic216_eq [.t 4] fun G hP hA => ?_
 unfold evF ic216
 conv => whnf
 (repeat' (first | (refine ZAE ?_; conv => whnf) | (refine dsplit (fun _ => ?_) (fun _ => ?_) <;> conv => whnf)))
 all_goals first | (exfalso; omega) | skip
 (refine ZAC ?_; conv => whnf); refine ⟨rfl, rfl, rfl, ZAr ?_, ZAD, rfl⟩
 simp; omega
theorem ZJc (n : Nat) (st dl : Nat -> Int) (a b : Bool) (t : Nat) (ht : t < n) (hn : n <= 64) : ZAH Tryz.prog 212 (ZBa n st dl a b) 2 [.l (.p 0 0 0 0), .l (.v (.int .i64 t))] fun x h k => x = sInt .i64 (st t) /\ k = 2 /\ h = ZBa n st dl a b := by
 have hth := ZFh n st dl a b t ht hn
 have hnt' : nadd 0 ((t : Int)).toNat = t := by simp [ZAI]
 refine sE Tryz.func212 ic212_eq [.t 4] fun G hP hA => ?_
 unfold evF ic212
 conv => whnf
 (refine ZAA hP (hth) ?_; (conv => whnf); refine zA ?_; conv => whnf)
 (repeat' ((first | refine aI ?_ | refine a64 ?_ | refine a32 ?_ | refine a8 ?_); conv => whnf))
 rw [hnt']
 (refine ZAC ?_; conv => whnf); exact zF
theorem ZBC (n : Nat) (st dl : Nat -> Int) (a b : Bool) (t : Nat) (ht : t < n) (hn : n <= 64) : ZAH Tryz.prog 212 [(0, some (ZBe n st dl a b))] 1 [.l (.p 0 0 0 0), .l (.v (.int .i64 t))] fun x h k => x = sInt .i64 (st t) /\ k = 1 /\ h = [(0, some (ZBe n st dl a b))] := by
 have hth := ZFh n st dl a b t ht hn
 have hnt' : nadd 0 ((t : Int)).toNat = t := by simp [ZAI]
 refine sG (ZAf (ZBa n st dl a b) 2 0 (by omega)) Tryz.func212 ic212_eq [.t 4] fun G hP hA => ?_
 unfold evF ic212
 conv => whnf
 (refine ZAA hP (hth) ?_; (conv => whnf); refine zA ?_; conv => whnf)
 (repeat' ((first | refine aI ?_ | refine a64 ?_ | refine a32 ?_ | refine a8 ?_); conv => whnf))
 rw [hnt']
 (refine ZAG (H := (ZBa n st dl a b)) (np := 2) 0 0 (Nat.le_of_ble_eq_true rfl) ?_; conv => whnf); (refine zK ?_)
 (refine ZAC ?_; conv => whnf); exact zF
theorem updB (f : Nat -> Bool) (i : Nat) (v : Bool) (j : Nat) : mrgL (j = i) (ZAL (ZH6 f j) 0 [.bool v]) (ZH6 f j) = ZH6 (fun j => if j = i then v else f j) j := by
 simp only [ZH6, ZAL, setL, mrgL, ZBJ]
 by_cases h : j = i <;> simp [h]
def ZRE (n nw : Nat) (nx ow : Int) (st dl nu : Nat -> Int) (dr : Nat -> Bool) (X : Ent) : Heap := (1, some X) :: ZB2 n nx ow st dl nu dr
theorem updS (f g : Nat -> Int) (i : Nat) (u v : Int) (j : Nat) : mrgL (j = i) (ZAL (ZFR f g j) 0 [.int .i64 u, .int .i64 v]) (ZFR f g j) = ZFR (updF f i u) (updF g i v) j := by
 simp only [ZFR, updF, ZAL, setL, mrgL, ZBJ]
 by_cases h : j = i <;> simp [h]
def stV (n : Nat) (st : Nat -> Int) (t : Int) : Int := pick (inW n t) (st t.toNat) 0
def dlV (n : Nat) (dl : Nat -> Int) (t : Int) : Int := pick (inW n t) (dl t.toNat) (-1)
theorem ZCi (n : Nat) (st dl : Nat -> Int) (a b : Bool) (t : Int) : ZAH Tryz.prog 216 (ZBa n st dl a b) 2 [.l (.p 0 0 0 0), .l (.v (.int .i64 t))] fun x h k => x = ZAb (inW n t) /\ k = 2 /\ h = ZBa n st dl a b := by
 refine sE Tryz.func216 ic216_eq [.t 4] fun G hP hA => ?_
 unfold evF ic216
 conv => whnf
 (repeat' (first | (refine ZAE ?_; conv => whnf) | (refine dsplit (fun _ => ?_) (fun _ => ?_) <;> conv => whnf)))
 ·(refine ZAC ?_; conv => whnf); refine ⟨rfl, rfl, rfl, ZAr ?_, ZAD, rfl⟩
  simp only [inW]; simp; omega
 ·(refine ZAC ?_; conv => whnf); refine ⟨rfl, rfl, rfl, ZAr ?_, ZAD, rfl⟩
  simp only [inW]; simp; omega
theorem ZAz (n : Nat) (st dl : Nat -> Int) (a b : Bool) (t : Int) : ZAH Tryz.prog 212 [(0, some (ZBe n st dl a b))] 1 [.l (.p 0 0 0 0), .l (.v (.int .i64 t))] fun x h k => x = sInt .i64 (stV n st t) /\ k = 1 /\ h = [(0, some (ZBe n st dl a b))] := by
 have hth := ZCi n st dl a b t
 refine sG (ZAf (ZBa n st dl a b) 2 0 (by omega)) Tryz.func212 ic212_eq [.t 4] fun G hP hA => ?_
 unfold evF ic212 stV
 rcases ZAt n t with ⟨hb, i, hi, rfl⟩ | ⟨hb, ho⟩
 ·rw [hb] at hth ⊢
  conv => whnf
  (refine ZAA hP (hth) ?_; (conv => whnf); refine zA ?_; conv => whnf)
  (repeat' ((first | refine aI ?_ | refine a64 ?_ | refine a32 ?_ | refine a8 ?_); conv => whnf))
  rw [natI]
  (refine ZAG (H := (ZBa n st dl a b)) (np := 2) 0 0 (Nat.le_of_ble_eq_true rfl) ?_; conv => whnf); (refine zK ?_)
  (refine ZAC ?_; conv => whnf); exact zF
 ·rw [hb] at hth ⊢
  conv => whnf
  (refine ZAA hP (hth) ?_; (conv => whnf); refine zA ?_; conv => whnf)
  (refine ZAG (H := (ZBa n st dl a b)) (np := 2) 0 0 (Nat.le_of_ble_eq_true rfl) ?_; conv => whnf); (refine zK ?_)
  (refine ZAC ?_; conv => whnf); exact zF
theorem ZFp (n : Nat) (st dl : Nat -> Int) (a b : Bool) (t : Int) : ZAH Tryz.prog 254 [(0, some (ZBe n st dl a b))] 1 [.l (.p 0 0 0 0), .l (.v (.int .i64 t))] fun x h k => x = sInt .i64 (dlV n dl t) /\ k = 1 /\ h = [(0, some (ZBe n st dl a b))] := by
 have hth := ZCi n st dl a b t
 refine sG (ZAf (ZBa n st dl a b) 2 0 (by omega)) Tryz.func254 ic254_eq [.t 4] fun G hP hA => ?_
 unfold evF ic254 dlV
 rcases ZAt n t with ⟨hb, i, hi, rfl⟩ | ⟨hb, ho⟩
 ·rw [hb] at hth ⊢
  conv => whnf
  (refine ZAA hP (hth) ?_; (conv => whnf); refine zA ?_; conv => whnf)
  (repeat' ((first | refine aI ?_ | refine a64 ?_ | refine a32 ?_ | refine a8 ?_); conv => whnf))
  rw [natI]
  (refine ZAG (H := (ZBa n st dl a b)) (np := 2) 0 0 (Nat.le_of_ble_eq_true rfl) ?_; conv => whnf); (refine zK ?_)
  (refine ZAC ?_; conv => whnf); exact zF
 ·rw [hb] at hth ⊢
  conv => whnf
  (refine ZAA hP (hth) ?_; (conv => whnf); refine zA ?_; conv => whnf)
  (refine ZAG (H := (ZBa n st dl a b)) (np := 2) 0 0 (Nat.le_of_ble_eq_true rfl) ?_; conv => whnf); (refine zK ?_)
  (refine ZAC ?_; conv => whnf); exact zF
def ZDv (s e : Int) : Int :=
 pick (decide (s = 1) && decide (e = 1)) 2 (pick (decide (s = 1) && (decide (e = 2) || decide (e = 6))) 0 (pick (decide (s = 3) && decide (e = 3)) 0 (pick (decide (s = 4) && (decide (e = 4) || decide (e = 5))) 2 (-1))))
theorem ZLG (s e : Int) : ZAH Tryz.prog 225 [] 0 [.l (.v (.int .i64 s)), .l (.v (.int .i64 e))] fun x h k => x = sInt .i64 (ZDv s e) /\ k = 0 /\ h = [] := by
 refine sE Tryz.func225 ic225_eq [.t 4] fun G hP hA => ?_
 unfold evF ic225
 conv => whnf
 (repeat' (first | (refine ZAE ?_; conv => whnf) | (refine dsplit (fun _ => ?_) (fun _ => ?_) <;> conv => whnf)))
 all_goals ((refine ZAC ?_; conv => whnf); refine ⟨rfl, rfl, rfl, ZBB ?_, ZAD, rfl⟩)
 all_goals (simp_all [ZDv, pick]; try omega)
def enSt (st : Nat -> Int) (t : Nat) (e : Int) : Nat -> Int := pick (decide (ZDv (st t) e < 0)) st (updF st t (ZDv (st t) e))
def enDl (st dl : Nat -> Int) (t : Nat) (e : Int) : Nat -> Int := pick (decide (ZDv (st t) e < 0)) dl (updF dl t (-1))
def enB (st : Nat -> Int) (t : Nat) (e : Int) : Bool := !decide (ZDv (st t) e < 0)
theorem ZAa (n : Nat) (st dl : Nat -> Int) (a b : Bool) (t : Nat) (e : Int) (ht : t < n) (hn : n <= 64) : ZAH Tryz.prog 221 [(0, some (ZBe n st dl a b))] 1 [.l (.p 0 0 0 0), .l (.v (.int .i64 t)), .l (.v (.int .i64 e))] fun x h k => x = ZAb (enB st t e) /\ k = 1 /\ h = [(0, some (ZBe n (enSt st t e) (enDl st dl t e) a b))] := by
 have hst := ZJc n st dl a b t ht hn
 have hne := ZLG (st t) e
 refine sG (ZAf (ZBa n st dl a b) 2 0 (by omega)) Tryz.func221 ic221_eq [.t 6] fun G hP hA => ?_
 unfold evF ic221 enB enSt enDl
 by_cases hz : ZDv (st t) e < 0
 ·simp only [hz, decide_true, pick]
  conv => whnf
  (refine ZAA hP (hst) ?_; (conv => whnf); refine zA ?_; conv => whnf)
  (refine ZAA hP (hne) ?_; (conv => whnf); refine zA ?_; conv => whnf)
  refine dsplit (fun hq => ?_) (fun hq => absurd hz hq)
  conv => whnf
  (refine ZAG (H := (ZBa n st dl a b)) (np := 2) 0 0 (Nat.le_of_ble_eq_true rfl) ?_; conv => whnf); (refine zK ?_)
  (refine ZAC ?_; conv => whnf); exact zF
 ·simp only [hz, decide_false, pick]
  conv => whnf
  (refine ZAA hP (hst) ?_; (conv => whnf); refine zA ?_; conv => whnf)
  (refine ZAA hP (hne) ?_; (conv => whnf); refine zA ?_; conv => whnf)
  refine dsplit (fun hq => absurd hq hz) (fun hq => ?_)
  conv => whnf
  (repeat' ((first | refine aI ?_ | refine a64 ?_ | refine a32 ?_ | refine a8 ?_); conv => whnf))
  rw [natI]
  (refine ZAG (H := (ZBa n (updF st t (ZDv (st t) e)) (updF dl t (-1)) a b)) (np := 2) 0 0 (Nat.le_of_ble_eq_true rfl) ?_; conv => whnf); (refine ⟨⟨rfl, by omega, rfl, rfl, ?_, rfl⟩, ?_⟩)
  ·exact ⟨rfl, ⟨rfl, rfl, fun j hj => updS st dl t (ZDv (st t) e) (-1) j⟩, trivial⟩
  conv => whnf
  (refine ZAC ?_; conv => whnf); exact zF
theorem ZCN (n : Nat) (st dl : Nat -> Int) (a b : Bool) (t : Int) (ho : inW n t = false) : ZAH Tryz.prog 221 [(0, some (ZBe n st dl a b))] 1 [.l (.p 0 0 0 0), .l (.v (.int .i64 t)), .l (.v (.int .i64 0))] fun x h k => x = ZAb false /\ k = 1 /\ h = [(0, some (ZBe n st dl a b))] := by
 have hst := ZAz n st dl a b t
 simp only [stV, ho, pick] at hst
 have hne := ZLG 0 0
 simp [ZDv, pick] at hne
 refine sE Tryz.func221 ic221_eq [.t 6] fun G hP hA => ?_
 unfold evF ic221
 conv => whnf
 (refine ZAA hP (hst) ?_; (conv => whnf); refine zA ?_; conv => whnf)
 (refine ZAA hP (hne) ?_; (conv => whnf); refine zA ?_; conv => whnf)
 (refine ZAC ?_; conv => whnf); exact zF
def lkE (n : Nat) (st : Nat -> Int) (tm : Bool) (t d : Int) : Int := pick (!inW n t || decide (d < -1) || (decide (0 <= d) && !tm)) 1 (pick (decide (st t.toNat = 0)) 0 2)
def lkSt (n : Nat) (st : Nat -> Int) (tm : Bool) (t d : Int) : Nat -> Int := pick (decide (lkE n st tm t d = 0)) (updF st t.toNat 1) st
def lkDl (n : Nat) (st dl : Nat -> Int) (tm : Bool) (t d : Int) : Nat -> Int := pick (decide (lkE n st tm t d = 0)) (updF dl t.toNat d) dl
def hoE (n : Nat) (st : Nat -> Int) (t : Int) : Int := pick (!inW n t) 1 (pick (decide (st t.toNat = 0)) 3 (pick (decide (st t.toNat = 2)) 0 2))
def ulSt (n : Nat) (st : Nat -> Int) (t v : Int) : Nat -> Int := pick (decide (hoE n st t = 0)) (updF st t.toNat v) st
theorem ZQ5 {n : Nat} {st : Nat -> Int} {tm : Bool} {t d : Int} (h : lkE n st tm t d = 0) : inW n t = true /\ -1 <= d /\ (0 <= d -> tm = true) /\ st t.toNat = 0 := by
 simp only [lkE] at h
 cases h1 : inW n t <;> simp [h1, pick] at h
 by_cases h2 : d < -1 <;> simp [h2] at h
 by_cases h3 : 0 <= d <;> cases tm <;> simp [h3] at h <;> by_cases h4 : st t.toNat = 0 <;> simp [h4] at h <;> (refine ⟨rfl, by omega, fun _ => ?_, h4⟩ <;> first | rfl | (exfalso; omega))
theorem ZQc {n : Nat} {st : Nat -> Int} {t : Int} (h : hoE n st t = 0) : inW n t = true /\ st t.toNat = 2 := by
 simp only [hoE] at h
 cases h1 : inW n t <;> simp [h1, pick] at h
 by_cases h2 : st t.toNat = 0 <;> simp [h2] at h
 by_cases h3 : st t.toNat = 2 <;> simp [h3] at h
 exact ⟨rfl, h3⟩
structure SS where
 st : Nat -> Int
 dl : Nat -> Int
structure Dd where
 e : Int
 q : Bool
 a : Bool
 l : Bool
def didO (d : Dd) : SV := .o (.a [.v (.int .i64 d.e), .v (.bool d.q), .v (.bool d.a), .v (.bool d.l)])
def evD (e : Int) : Dd := ⟨e, false, false, false⟩
def enSS (ss : SS) (t : Nat) (e : Int) : SS := ⟨enSt ss.st t e, enDl ss.st ss.dl t e⟩
def ZQd (f : Nat -> Bool) (i : Nat) (v : Bool) : Nat -> Bool := fun j => if j = i then v else f j
structure FL where
 ss : SS
 nu : Nat -> Int
 dr : Nat -> Bool
def ZIl (n nt nw : Nat) (nx ow : Int) (hs : Nat -> Int) (L : FL) (s : PS) : Heap := ZRE n nw nx ow L.ss.st L.ss.dl L.nu L.dr (ZBO nt nw hs s)
def u32p (x : Int) : Int := IntKind.u32.wrap (x + 1)
def flLk (nw : Nat) (nx ow : Int) (t ta : Nat) (L : FL) (s : PS) : Dd × FL × PS :=
 match L.dr t with
 | false => (⟨0, true, false, false⟩, ⟨L.ss, updF L.nu t (adV nw nx 1 s), ZQd L.dr t true⟩, adS nw ta nx 1 s)
 | true => (evD (pick (decide (rdV nw ow s = L.nu t)) 1 0), L, rdS nw ta ow s)
def ZMl (nw : Nat) (nx ow : Int) (t ta : Nat) (L : FL) (s : PS) : Dd × FL × PS :=
 pick (decide (L.ss.st t = 1)) (flLk nw nx ow t ta L s) (pick (decide (L.ss.st t = 3)) (evD 3, ⟨L.ss, L.nu, ZQd L.dr t false⟩, wtS nw ta ow (u32p (L.nu t)) s)
  (pick (decide (L.ss.st t = 4)) (evD (pick (decide (rdV nw nx s = u32p (L.nu t))) 4 5), L, rdS nw ta nx s) (evD 0, L, s)))
def ZMm (t : Nat) (r : Dd × FL × PS) : Dd × FL × PS := (r.1, ⟨enSS r.2.1.ss t r.1.e, r.2.1.nu, r.2.1.dr⟩, r.2.2)
def ZCu (n nw : Nat) (nx ow : Int) (t : Int) (ta : Nat) (L : FL) (s : PS) : Dd × FL × PS :=
 match inW n t with | true => ZMm t.toNat (ZMl nw nx ow t.toNat ta L s) | false => (evD 0, L, s)
theorem ZMn (n nt nw t ta : Nat) (nx ow : Int) (hs : Nat -> Int) (L : FL) (s : PS) (ht : t < n) (hta : ta < nt) (hnt : nt <= 64) (hn : n <= 64) (hnw : nw <= 4096) :
  ZAH Tryz.prog 218 (ZIl n nt nw nx ow hs L s) 5 [.l (.p 0 0 0 0), .l (.v (.int .i64 t)), .l (.v (.int .i64 ta))] fun x h k =>
   x = didO (flLk nw nx ow t ta L s).1 /\ k = 5 /\ h = ZIl n nt nw nx ow hs (flLk nw nx ow t ta L s).2.1 (flLk nw nx ow t ta L s).2.2 := by
 have hpa := adSp nt nw hs s ta nx 1 hta hnt hnw
 have hpl := ldS nt nw hs s ta ow hta hnt hnw
 refine sE Tryz.func218 ic218_eq [.ca 6 4] fun G hP hA => ?_
 unfold evF ic218 flLk
 cases hd : L.dr t with
 | false =>
  simp only [hd]
  conv => whnf
  (repeat' ((first | refine aI ?_ | refine a64 ?_ | refine a32 ?_ | refine a8 ?_); conv => whnf))
  rw [natI, hd]
  conv => whnf
  (refine dI hP ?_; conv => whnf)
  (refine ZAB hP (hpa) ?_; (conv => whnf); refine zA ?_; conv => whnf)
  (repeat' ((first | refine aI ?_ | refine a64 ?_ | refine a32 ?_ | refine a8 ?_); conv => whnf))
  (repeat (refine oI ?_; conv => whnf))
  rw [natI]
  (refine ZAC ?_; conv => whnf); refine ⟨rfl, rfl, rfl, ?_, ?_, rfl⟩
  ·rfl
  ·exact ⟨ZAD, rfl, ZAD, ⟨rfl, rfl, fun j hj => updE L.nu t _ j⟩, ⟨rfl, rfl, fun j hj => updB L.dr t true j⟩, trivial⟩
 | true =>
  simp only [hd]
  conv => whnf
  (repeat' ((first | refine aI ?_ | refine a64 ?_ | refine a32 ?_ | refine a8 ?_); conv => whnf))
  rw [natI, hd]
  conv => whnf
  (refine dI hP ?_; conv => whnf)
  (refine ZAB hP (hpl) ?_; (conv => whnf); refine zA ?_; conv => whnf)
  (repeat' ((first | refine aI ?_ | refine a64 ?_ | refine a32 ?_ | refine a8 ?_); conv => whnf))
  (repeat (refine oI ?_; conv => whnf))
  rw [natI]
  refine dsplit (fun hq => ?_) (fun hq => ?_)
  ·simp only [hq, decide_true, pick]
   conv => whnf
   (refine ZAC ?_; conv => whnf); exact zF
  ·simp only [hq, decide_false, pick]
   conv => whnf
   (refine ZAC ?_; conv => whnf); exact zF
theorem ZMo (n nt nw t ta : Nat) (nx ow now : Int) (hs : Nat -> Int) (L : FL) (s : PS) (ht : t < n) (hta : ta < nt) (hnt : nt <= 64) (hn : n <= 64) (hnw : nw <= 4096) :
  ZAH Tryz.prog 213 (ZIl n nt nw nx ow hs L s) 5 [.l (.p 0 0 0 0), .l (.v (.int .i64 t)), .l (.v (.int .i64 ta)), .l (.v (.int .i64 now))] fun x h k =>
   x = didO (ZMm t (ZMl nw nx ow t ta L s)).1 /\ k = 5 /\ h = ZIl n nt nw nx ow hs (ZMm t (ZMl nw nx ow t ta L s)).2.1 (ZMm t (ZMl nw nx ow t ta L s)).2.2 := by
 have hst := ZBC n L.ss.st L.ss.dl false true t ht hn
 have hlk := ZMn n nt nw t ta nx ow hs L s ht hta hnt hn hnw
 refine sE Tryz.func213 ic213_eq [.ca 8 4] fun G hP hA => ?_
 unfold evF ic213 ZMl ZMm
 by_cases h1 : L.ss.st t = 1
 ·rw [h1] at hst
  simp only [h1, decide_true, pick]
  generalize flLk nw nx ow t ta L s = r at hlk ⊢
  have hen := ZAa n r.2.1.ss.st r.2.1.ss.dl false true t r.1.e ht hn
  conv => whnf
  (refine ZAE ?_; conv => whnf)
  conv => whnf
  (refine ZAA hP (hst) ?_; (conv => whnf); refine zA ?_; conv => whnf)
  (refine ZAA hP (hlk) ?_; (conv => whnf); refine zA ?_; conv => whnf)
  (refine dI hP ?_; conv => whnf)
  (refine ZAB hP (hen) ?_; (conv => whnf); refine zA ?_; conv => whnf)
  (repeat (refine oI ?_; conv => whnf))
  conv => whnf
  (refine ZAC ?_; conv => whnf); exact zF
 by_cases h3 : L.ss.st t = 3
 ·rw [h3] at hst
  simp only [Int.reduceEq, h3, decide_true, decide_false, pick]
  have hps := stS nt nw hs s ta ow (u32p (L.nu t)) hta hnt hnw
  have hen := ZAa n L.ss.st L.ss.dl false true t 3 ht hn
  conv => whnf
  (refine ZAE ?_; conv => whnf)
  conv => whnf
  (refine ZAA hP (hst) ?_; (conv => whnf); refine zA ?_; conv => whnf)
  (refine dI hP ?_; conv => whnf)
  (repeat' (first | ((first | refine aI ?_ | refine a64 ?_ | refine a32 ?_ | refine a8 ?_); conv => whnf) | (refine arW ?_; conv => whnf)))
  rw [natI]
  (refine ZAB hP (hps) ?_; (conv => whnf); refine zA ?_; conv => whnf)
  (repeat (refine oI ?_; conv => whnf))
  (repeat' (first | ((first | refine aI ?_ | refine a64 ?_ | refine a32 ?_ | refine a8 ?_); conv => whnf) | (refine arW ?_; conv => whnf)))
  rw [natI]
  (refine dI hP ?_; conv => whnf)
  (refine ZAB hP (hen) ?_; (conv => whnf); refine zA ?_; conv => whnf)
  (repeat (refine oI ?_; conv => whnf))
  conv => whnf
  (refine ZAC ?_; conv => whnf); refine ⟨rfl, rfl, rfl, ?_, ?_, rfl⟩
  ·rfl
  ·exact ⟨ZAD, rfl, ZAD, ZAD, ⟨rfl, rfl, fun j hj => updB L.dr t false j⟩, trivial⟩
 by_cases h4 : L.ss.st t = 4
 ·rw [h4] at hst
  simp only [Int.reduceEq, h4, decide_true, decide_false, pick]
  have hpl := ldS nt nw hs s ta nx hta hnt hnw
  have hen := fun e => ZAa n L.ss.st L.ss.dl false true t e ht hn
  conv => whnf
  (refine ZAE ?_; conv => whnf)
  conv => whnf
  (refine ZAA hP (hst) ?_; (conv => whnf); refine zA ?_; conv => whnf)
  (refine dI hP ?_; conv => whnf)
  (refine ZAB hP (hpl) ?_; (conv => whnf); refine zA ?_; conv => whnf)
  (repeat' (first | ((first | refine aI ?_ | refine a64 ?_ | refine a32 ?_ | refine a8 ?_); conv => whnf) | (refine arW ?_; conv => whnf)))
  rw [natI]
  (repeat (refine oI ?_; conv => whnf))
  refine dsplit (fun hq => ?_) (fun hq => ?_)
  ·have hq' : rdV nw nx s = u32p (L.nu t) := hq
   have hen := hen 4
   simp only [hq', decide_true]
   conv => whnf
   (refine dI hP ?_; conv => whnf)
   (refine ZAB hP (hen) ?_; (conv => whnf); refine zA ?_; conv => whnf)
   (repeat (refine oI ?_; conv => whnf))
   conv => whnf
   (refine ZAC ?_; conv => whnf); exact zF
  ·have hq' : ¬ rdV nw nx s = u32p (L.nu t) := hq
   have hen := hen 5
   simp only [hq', decide_false]
   conv => whnf
   (refine dI hP ?_; conv => whnf)
   (refine ZAB hP (hen) ?_; (conv => whnf); refine zA ?_; conv => whnf)
   (repeat (refine oI ?_; conv => whnf))
   conv => whnf
   (refine ZAC ?_; conv => whnf); exact zF
 ·have hen := ZAa n L.ss.st L.ss.dl false true t 0 ht hn
  simp only [h1, h3, h4, decide_false, pick]
  conv => whnf
  (refine ZAE ?_; conv => whnf)
  conv => whnf
  (refine ZAA hP (hst) ?_; (conv => whnf); refine zA ?_; conv => whnf)
  refine dsplit (fun hq => absurd hq h1) (fun _ => ?_)
  conv => whnf
  refine dsplit (fun hq => absurd hq h3) (fun _ => ?_)
  conv => whnf
  refine dsplit (fun hq => absurd hq h4) (fun _ => ?_)
  conv => whnf
  (refine dI hP ?_; conv => whnf)
  (refine ZAB hP (hen) ?_; (conv => whnf); refine zA ?_; conv => whnf)
  (repeat (refine oI ?_; conv => whnf))
  conv => whnf
  (refine ZAC ?_; conv => whnf); exact zF
theorem ZDh (u : Nat) (j : Nat) (hu : u < 4294967296) (hj : j <= 31) : bitZ .and .u32 (u : Int) ((2 ^ j - 1 : Nat) : Int) = ((u % 2 ^ j : Nat) : Int) := by
 have h2 : 2 ^ j <= 2 ^ 31 := Nat.pow_le_pow_right (by omega) hj
 have h3 : u % 2 ^ j < 2 ^ j := Nat.mod_lt _ (Nat.two_pow_pos j)
 have e1 : (BitVec.ofInt 32 (u : Int) &&& BitVec.ofInt 32 ((2 ^ j - 1 : Nat) : Int)).toNat = u % 2 ^ j := by
  rw [BitVec.toNat_and, BitVec.ofInt_natCast, BitVec.ofInt_natCast, BitVec.toNat_ofNat, BitVec.toNat_ofNat, Nat.mod_eq_of_lt (by omega : u < 2 ^ 32), Nat.mod_eq_of_lt (by omega : 2 ^ j - 1 < 2 ^ 32)]
  exact Nat.and_two_pow_sub_one_eq_mod u j
 show IntKind.wrap .u32 ((BitVec.ofInt 32 (u : Int) &&& BitVec.ofInt 32 ((2 ^ j - 1 : Nat) : Int)).toNat : Int) = _
 rw [e1]
 generalize u % 2 ^ j = r at *
 have h4 : r < 2147483648 := Nat.lt_of_lt_of_le h3 h2
 clear e1 h3 h2
 simp [IntKind.wrap, IntKind.signed, IntKind.bits]
 omega
def ZCd (n : Nat) : Prop := n = 1 \/ n = 2 \/ n = 4 \/ n = 8 \/ n = 16 \/ n = 32 \/ n = 64
theorem ZNf (u n : Nat) (hu : u < 4294967296) (hn : ZCd n) :
  ZAH Tryz.prog 133 [] 0 [.l (.v (.int .u32 u)), .l (.v (.int .i64 n))] fun x h k => x = sInt .i64 ((u % n : Nat) : Int) /\ k = 0 /\ h = [] := by
 have e0 : bitZ .and .u32 (u : Int) (((1 : Nat) : Int) - 1) = ((u % 1 : Nat) : Int) := ZDh u 0 hu (by omega)
 have b0 : -9223372036854775808 <= bitZ .and .u32 (u : Int) (((1 : Nat) : Int) - 1) /\ bitZ .and .u32 (u : Int) (((1 : Nat) : Int) - 1) <= 9223372036854775807 := by rw [e0]; omega
 have e1 : bitZ .and .u32 (u : Int) (((2 : Nat) : Int) - 1) = ((u % 2 : Nat) : Int) := ZDh u 1 hu (by omega)
 have b1 : -9223372036854775808 <= bitZ .and .u32 (u : Int) (((2 : Nat) : Int) - 1) /\ bitZ .and .u32 (u : Int) (((2 : Nat) : Int) - 1) <= 9223372036854775807 := by rw [e1]; omega
 have e2 : bitZ .and .u32 (u : Int) (((4 : Nat) : Int) - 1) = ((u % 4 : Nat) : Int) := ZDh u 2 hu (by omega)
 have b2 : -9223372036854775808 <= bitZ .and .u32 (u : Int) (((4 : Nat) : Int) - 1) /\ bitZ .and .u32 (u : Int) (((4 : Nat) : Int) - 1) <= 9223372036854775807 := by rw [e2]; omega
 have e3 : bitZ .and .u32 (u : Int) (((8 : Nat) : Int) - 1) = ((u % 8 : Nat) : Int) := ZDh u 3 hu (by omega)
 have b3 : -9223372036854775808 <= bitZ .and .u32 (u : Int) (((8 : Nat) : Int) - 1) /\ bitZ .and .u32 (u : Int) (((8 : Nat) : Int) - 1) <= 9223372036854775807 := by rw [e3]; omega
 have e4 : bitZ .and .u32 (u : Int) (((16 : Nat) : Int) - 1) = ((u % 16 : Nat) : Int) := ZDh u 4 hu (by omega)
 have b4 : -9223372036854775808 <= bitZ .and .u32 (u : Int) (((16 : Nat) : Int) - 1) /\ bitZ .and .u32 (u : Int) (((16 : Nat) : Int) - 1) <= 9223372036854775807 := by rw [e4]; omega
 have e5 : bitZ .and .u32 (u : Int) (((32 : Nat) : Int) - 1) = ((u % 32 : Nat) : Int) := ZDh u 5 hu (by omega)
 have b5 : -9223372036854775808 <= bitZ .and .u32 (u : Int) (((32 : Nat) : Int) - 1) /\ bitZ .and .u32 (u : Int) (((32 : Nat) : Int) - 1) <= 9223372036854775807 := by rw [e5]; omega
 have e6 : bitZ .and .u32 (u : Int) (((64 : Nat) : Int) - 1) = ((u % 64 : Nat) : Int) := ZDh u 6 hu (by omega)
 have b6 : -9223372036854775808 <= bitZ .and .u32 (u : Int) (((64 : Nat) : Int) - 1) /\ bitZ .and .u32 (u : Int) (((64 : Nat) : Int) - 1) <= 9223372036854775807 := by rw [e6]; omega
 refine sE Tryz.func133 ic133_eq [.t 4] fun G hP hA => ?_
 unfold evF ic133
 rcases hn with rfl | rfl | rfl | rfl | rfl | rfl | rfl
 all_goals
  conv => whnf
  (repeat' ((first | refine aI ?_ | refine a64 ?_ | refine a32 ?_ | refine a8 ?_); conv => whnf))
 ·(refine ZAC ?_; conv => whnf); refine ⟨rfl, rfl, rfl, ZBB ?_, ZAD, rfl⟩
  exact e0
 ·(refine ZAC ?_; conv => whnf); refine ⟨rfl, rfl, rfl, ZBB ?_, ZAD, rfl⟩
  exact e1
 ·(refine ZAC ?_; conv => whnf); refine ⟨rfl, rfl, rfl, ZBB ?_, ZAD, rfl⟩
  exact e2
 ·(refine ZAC ?_; conv => whnf); refine ⟨rfl, rfl, rfl, ZBB ?_, ZAD, rfl⟩
  exact e3
 ·(refine ZAC ?_; conv => whnf); refine ⟨rfl, rfl, rfl, ZBB ?_, ZAD, rfl⟩
  exact e4
 ·(refine ZAC ?_; conv => whnf); refine ⟨rfl, rfl, rfl, ZBB ?_, ZAD, rfl⟩
  exact e5
 ·(refine ZAC ?_; conv => whnf); refine ⟨rfl, rfl, rfl, ZBB ?_, ZAD, rfl⟩
  exact e6
def ZE5 (nu stp : Nat -> Int) : Nat -> List Value := fun i => [.int .u32 (nu i), .int .i64 (stp i)]
def ZKb (m : Nat) (tail : Int) (n : Nat) (st dl nu stp : Nat -> Int) : Heap := [(0, some (.st [.p 1 0 0 0, .v (.pointer none), .v (.int .i64 tail), .v (.int .i64 n), .s 2 2 0 m 0])), (1, some (ZBe m st dl false false)), (2, some (.ar 2 m (ZE5 nu stp)))]
def ZH7 (m : Nat) (tail : Int) (n : Nat) (st dl nu stp : Nat -> Int) : Ent := .ob [] (ZAs (ZKb m tail n st dl nu stp) 3)
def ZBX (m : Nat) (tail : Int) (n : Nat) (st dl nu stp : Nat -> Int) : Heap := [(0, some (.st [.p 2 0 0 0, .p 1 0 0 0, .v (.int .i64 tail), .v (.int .i64 n), .s 3 2 0 m 0])), (2, some (ZBe m st dl false false)), (3, some (.ar 2 m (ZE5 nu stp)))]
def ZG3 (u n : Nat) (i : Nat) : Int := if i = u % n then 1 else 0
def ZDi (hs : Nat -> Int) (M : Nat) (h : Nat -> Int) (m n : Nat) : Nat -> Int := ZBQ (ZA0 hs M (h 0)) (M + 1) (fun i => h (i % m)) n
def ZGU (ws : Nat -> Int) (M : Nat) (u n : Nat) : Nat -> Int := ZBQ (ZA0 ws M u) (M + 1) (ZG3 u n) n
theorem ZH8 (v : Int) : ZAH Tryz.prog 131 [] 0 [.l (.v (.int .i64 v))] fun x h n => x = ZAb (badH v) /\ n = 0 /\ h = [] := by
 refine sE Tryz.func131 ic131_eq [.t 2] fun G hP hA => ?_
 unfold evF ic131
 conv => whnf
 (repeat' (first | (refine ZAE ?_; conv => whnf) | (refine dsplit (fun _ => ?_) (fun _ => ?_) <;> conv => whnf)))
 all_goals (((refine ZAC ?_; conv => whnf); refine ⟨rfl, rfl, rfl, ZAr ?_, ZAD, rfl⟩); unfold badH; rw [Bool.eq_iff_iff]; simp; omega)
theorem ZNg {a b : Nat} {K : Int -> Prop} (hb : b ≠ 0) (hk : K ((a % b : Nat) : Int)) : RemP (a : Int) (b : Int) K := ⟨⟨by omega, by rw [show (a : Int).tmod (b : Int) = ((a % b : Nat) : Int) from rfl]; exact hk⟩⟩
theorem ZKc (th : Int) (M : Nat) (hs ws h : Nat -> Int) (m n u : Nat) (hM : M <= 10000) (hm : 1 <= m /\ m <= 64) (hb : anyZ badH h m = false) (hu : u < 4294967296) (hn : ZCd n) (hmn : m <= n) :
  ZAH Tryz.prog 106 [(0, some (ZBI th M hs ws)), (1, some (.ro 1 m (numE h)))] 2 [.l (.p 0 0 0 0), .l (.s 1 1 0 m 0), .l (.v (.int .i64 n)), .l (.v (.int .u32 u))] fun x h' k =>
   x = .t [.l (.p 2 0 0 0), .l (.v (.int .i64 0))] /\ k = 3 /\ h' = [(0, some (ZBI th (M + 1 + n) (ZDi hs M h m n) (ZGU ws M u n))), (2, some (ZH7 m M n (fun _ => 0) (fun _ => -1) (fun _ => 0) fun _ => 0))] := by
 have hn64 : n <= 64 := by unfold ZCd at hn; omega
 have hse := ZCO m false false (by omega)
 have hcf := ZBP 131 badH ZH8 h m (by omega)
 rw [hb] at hcf
 have hsi := ZMC
 have hct := ZDf (n : Int) sizN 7 (by omega)
 rw [show anyZ (fun x => decide ((n : Int) = x)) sizN 7 = true from by rcases hn with rfl | rfl | rfl | rfl | rfl | rfl | rfl <;> simp [anyZ, sizN]] at hct
 have hw1 := ZBG th M hs ws (h 0) u (by omega)
 have hsl := ZNf u n hu hn
 refine sE Tryz.func106 ic106_eq [.t 8, .t 9] fun G hP hA => ?_
 unfold evF ic106
 conv => whnf
 (refine ZAA hP (hse) ?_; (conv => whnf); refine zA ?_; conv => whnf)
 (refine ZAA hP (hcf) ?_; (conv => whnf); refine zA ?_; conv => whnf)
 refine dsplit (fun h1 => absurd h1 (by omega)) (fun _ => ?_)
 conv => whnf
 (refine ZAA hP (hsi) ?_; (conv => whnf); refine zA ?_; conv => whnf)
 (refine ZAA hP (hct) ?_; (conv => whnf); refine zA ?_; conv => whnf)
 (repeat' ((first | refine aI ?_ | refine a64 ?_ | refine a32 ?_ | refine a8 ?_); conv => whnf))
 (refine ZAA hP (hw1) ?_; (conv => whnf); refine zA ?_; conv => whnf)
 (repeat' ((first | refine aI ?_ | refine a64 ?_ | refine a32 ?_ | refine a8 ?_); conv => whnf))
 refine ZAn (α := Nat) (ds := []) (N := 6) (fun i => [(54, sInt .i64 (i : Int))]) []
  (fun i => [(0, some (ZBI th (M + 1 + i) (ZDi hs M h m i) (ZBQ (ZA0 ws M u) (M + 1) (ZG3 u n) i)))])
  (fun i => i <= n) (fun i => n - i) 0 (Nat.zero_le _) ?_ fun i hi => ?_
 ·(conv => whnf); (refine ZAU hA ?_; conv => whnf); exact zI
 ·have hmod : i % m < m := Nat.mod_lt _ (by omega)
  have hni : nadd 0 ((i % m : Nat) : Int).toNat = i % m := by rw [ZAI, Int.toNat_natCast, Nat.add_zero]
  conv => whnf
  refine dsplit (fun h1 => ?_) (fun h1 => ?_)
  ·replace h1 : (i : Int) < (n : Int) := h1
   conv => whnf
   (refine ZAE ?_; conv => whnf)
   (refine ZAA hP (hsl) ?_; (conv => whnf); refine zA ?_; conv => whnf)
   refine dsplit (fun h2 => ?_) (fun h2 => ?_)
   ·replace h2 : (i : Int) = ((u % n : Nat) : Int) := h2
    have hwi := ZBG th (M + 1 + i) (ZDi hs M h m i) (ZBQ (ZA0 ws M u) (M + 1) (ZG3 u n) i) (h (i % m)) 1 (by omega)
    rw [show ZA0 (ZBQ (ZA0 ws M u) (M + 1) (ZG3 u n) i) (M + 1 + i) 1 = ZBQ (ZA0 ws M u) (M + 1) (ZG3 u n) (i + 1) from by simp only [ZBQ, ZG3, if_pos (Int.ofNat_inj.1 h2)]] at hwi
    conv => whnf
    refine ZNg (by omega) ?_
    conv => whnf
    refine And.intro (by omega) ?_
    conv => whnf
    refine And.intro (by omega) ?_
    conv => whnf
    rw [hni]
    conv => whnf
    (refine ZAA hP (hwi) ?_; (conv => whnf); refine zA ?_; conv => whnf)
    (repeat' ((first | refine aI ?_ | refine a64 ?_ | refine a32 ?_ | refine a8 ?_); conv => whnf))
    refine ⟨i + 1, by omega, by omega, ?_⟩
    (conv => whnf); (refine ZAU hA ?_; conv => whnf); exact zI
   ·replace h2 : ¬ (i : Int) = ((u % n : Nat) : Int) := h2
    have hwi := ZBG th (M + 1 + i) (ZDi hs M h m i) (ZBQ (ZA0 ws M u) (M + 1) (ZG3 u n) i) (h (i % m)) 0 (by omega)
    rw [show ZA0 (ZBQ (ZA0 ws M u) (M + 1) (ZG3 u n) i) (M + 1 + i) 0 = ZBQ (ZA0 ws M u) (M + 1) (ZG3 u n) (i + 1) from by simp only [ZBQ, ZG3, if_neg (fun hh => h2 (congrArg Int.ofNat hh))]] at hwi
    conv => whnf
    refine ZNg (by omega) ?_
    conv => whnf
    refine And.intro (by omega) ?_
    conv => whnf
    refine And.intro (by omega) ?_
    conv => whnf
    rw [hni]
    conv => whnf
    (refine ZAA hP (hwi) ?_; (conv => whnf); refine zA ?_; conv => whnf)
    (repeat' ((first | refine aI ?_ | refine a64 ?_ | refine a32 ?_ | refine a8 ?_); conv => whnf))
    refine ⟨i + 1, by omega, by omega, ?_⟩
    (conv => whnf); (refine ZAU hA ?_; conv => whnf); exact zI
  ·replace h1 : ¬ (i : Int) < (n : Int) := h1
   obtain rfl : i = n := by omega
   conv => whnf
   (refine ZAG (H := (ZKb m M i (fun _ => 0) (fun _ => -1) (fun _ => 0) fun _ => 0)) (np := 3) 5 0 (Nat.le_of_ble_eq_true rfl) ?_; conv => whnf); (refine zK ?_)
   (refine ZAC ?_; conv => whnf); exact zF
def rowE (E j : Nat) : Nat -> List Value := fun q => [.int .i64 ((j : Int) * E + q + 1)]
def ZKd (a : Nat) (val : Nat -> Value) : Nat -> Value := fun j => if j < a then val j else .slice none 0 0
def outN (T E : Nat) : Nat := (1 + (T : Int) * (E : Int)).toNat
def ZQm (T E : Nat) (val : Nat -> Value) : Heap := [(0, some (.st [.s 1 1 0 T 0, .s 2 1 0 (outN T E) 0])), (1, some (.hl T (ZKd (T - 1) val) (T - 1) (.s 3 1 0 E 0))), (2, some (.ar 1 (outN T E) (ZH6 fun _ => false))), (3, some (.ar 1 E (rowE E (T - 1)))), (4, some (.ob [] (ZEp E (rowE E) (T - 1) val)))]
def ZPl (T E : Nat) : List Go.Sx.Loc -> Go.Sx.Loc -> List Nat -> World -> Prop := fun ls l F w => ∃ val, ZAs (ZQm T E val) 5 ls l F w
def ZPm (T E : Nat) : Ent := .ob [] (ZPl T E)
theorem ZJO (T E : Nat) (ls : List Go.Sx.Loc) : ZCf (ZPl T E ls) := fun l F w w' ⟨val, h⟩ hw => ⟨val, ZBW _ _ _ l F w w' h hw⟩
theorem ZQn {i E a : Nat} {K : Int -> Prop} (hE : E ≠ 0) (hi : i / E = a) (hs : a < 1000000) (hk : K (a : Int)) : QuoP .i64 (i : Int) (E : Int) K := by
 refine ⟨⟨by omega, ?_⟩⟩
 rw [show (i : Int).tdiv (E : Int) = ((i / E : Nat) : Int) from rfl, hi, ZIb (k := .i64) (show (-9223372036854775808 : Int) <= _ by omega) (show _ <= (9223372036854775807 : Int) by omega)]
 exact hk
theorem ZQo {E a b i : Nat} (hE : 1 <= E) (hb : b < E) (hi : i = a * E + b) : i / E = a := by
 subst hi
 rw [Nat.mul_comm, Nat.mul_add_div (by omega), Nat.div_eq_of_lt hb, Nat.add_zero]
theorem ZOr {E a b i T : Nat} (hi : i = a * E + b) (ha : a + 1 = T) (h : i + 1 < T * E) : b + 1 < E := by
 subst ha hi
 rw [Nat.add_mul] at h
 omega
theorem ZMD (T E : Nat) (hT : 1 <= T /\ T <= 64) (hE : 1 <= E /\ E <= 8) : ZAH Tryz.prog 138 [] 0 [.l (.v (.int .i64 T)), .l (.v (.int .i64 E))] fun x h k =>
  x = .t [.l (.p 0 0 0 0), .l (.v (.int .i64 0))] /\ k = 1 /\ h = [(0, some (ZPm T E))] := by
 have hTE : (T : Int) * (E : Int) = ((T * E : Nat) : Int) := (Int.natCast_mul T E).symm
 have hTE2 : T * E <= 64 * 8 := Nat.mul_le_mul hT.2 hE.2
 have hTE3 : 0 <= (T : Int) * (E : Int) /\ (T : Int) * (E : Int) <= 512 := by rw [hTE]; omega
 refine sE Tryz.func138 ic138_eq [.t 4, .t 5] fun G hP hA => ?_
 unfold evF ic138
 conv => whnf
 refine dsplit (fun h => absurd h (by omega)) (fun _ => ?_)
 conv => whnf
 refine dsplit (fun h => absurd h (by omega)) (fun _ => ?_)
 conv => whnf
 refine dsplit (fun h => absurd h (by omega)) (fun _ => ?_)
 conv => whnf
 refine dsplit (fun h => absurd h (by omega)) (fun _ => ?_)
 conv => whnf
 (refine ZAl (by rw [hP]; exact follows) 60 (by kernel_rfl) ?_; conv => whnf)
 repeat' (first | (refine And.intro (by first | omega | (simp [ZAI]; omega)) ?_; conv => whnf) | (refine ZGp (by omega) (by omega) ?_; conv => whnf) | (refine And.intro ?_ ?_ <;> (conv => whnf)))
 all_goals (repeat' ((first | refine aI ?_ | refine a64 ?_ | refine a32 ?_ | refine a8 ?_); conv => whnf))
 all_goals
  refine ZQR (α := Nat × Nat × Nat × (Nat -> Value)) (ds := [22, 23, 24, 25, 26, 27, 28, 29, 30]) (N := 5) (fun x => [(34, sInt .i64 (x.1 : Int)), (6, .o (.l (.p 2 0 0 0)))]) []
   (fun x => [(2, some (.st [.s 0 1 0 T 0, .s 1 1 0 (outN T E) 0])), (0, some (.hl T (ZKd x.2.1 x.2.2.2) x.2.1 (.s 3 1 0 x.2.2.1 0))), (1, some (.ar 1 (outN T E) (ZH6 fun _ => false))), (3, some (.ar 1 x.2.2.1 (rowE E x.2.1))), (4, some (.ob [] (ZEp E (rowE E) x.2.1 x.2.2.2)))])
   (fun x => (x.1 = x.2.1 * E + x.2.2.1 /\ x.2.1 < T) /\ (x.2.2.1 <= E /\ x.1 <= T * E) /\ (x.1 < T * E -> x.2.2.1 < E)) (fun x => T * E - x.1) (0, 0, 0, fun _ => .bool false) ⟨⟨by simp, show 0 < T by omega⟩, ⟨show 0 <= E by omega, show 0 <= T * E by omega⟩, fun _ => show 0 < E by omega⟩ ?_ ?_
  ·conv => whnf
   first
    | (refine Imp.trans (ZAj ((ZAV.tohl 0 0 (fun _ => .slice none 0 0) (.slice none 0 0) (m := T) (f := fun _ => [.slice none 0 0]) rfl (by omega) (fun j hj => by split <;> rfl)).trans ((ZAV.nilh 0 1 (rowE E 0) rfl).trans (ZAV.nothing (ZEp E (rowE E) 0 fun _ => .bool false) (ZB5 _ _ _ _ _) (ZHY _ _ _))))) ?_; refine ZAW hA [0, 1, 2, 3, 4] rfl rfl rfl ZAe ?_ rfl)
    | (refine Imp.trans (ZAj ((ZAV.tohl 1 0 (fun _ => .slice none 0 0) (.slice none 0 0) (m := T) (f := fun _ => [.slice none 0 0]) rfl (by omega) (fun j hj => by split <;> rfl)).trans ((ZAV.nilh 1 1 (rowE E 0) rfl).trans (ZAV.nothing (ZEp E (rowE E) 0 fun _ => .bool false) (ZB5 _ _ _ _ _) (ZHY _ _ _))))) ?_; refine ZAW hA [1, 0, 2, 3, 4] rfl rfl rfl ZAe ?_ rfl)
   all_goals exact ⟨rfl, ⟨rfl, rfl, rfl, fun j hj => by simp [ZKd]⟩, ⟨rfl, rfl, fun _ _ => rfl⟩, ⟨rfl, rfl, fun _ _ => rfl⟩, ⟨rfl, .inl rfl⟩, trivial⟩
  ·intro x hx
   obtain ⟨i, a, b, val⟩ := x
   obtain ⟨⟨hi, ha⟩, ⟨hb, hiT⟩, hlt⟩ := hx
   replace hi : i = a * E + b := hi
   replace ha : a < T := ha
   replace hb : b <= E := hb
   replace hiT : i <= T * E := hiT
   replace hlt : i < T * E -> b < E := hlt
   conv => whnf
   refine dsplit (fun h1 => ?_) (fun h1 => ?_)
   ·replace h1 : (i : Int) < (T : Int) * (E : Int) := h1
    have h2 : i < T * E := by rw [hTE] at h1; exact Int.ofNat_lt.1 h1
    have hbE := hlt h2
    have hq := ZQo hE.1 hbE hi
    have hna : nadd 0 ((a : Nat) : Int).toNat = a := by simp [ZAI]
    have hE0 : E ≠ 0 := by omega
    have ha6 : a < 1000000 := by omega
    have hi6 : i <= 512 := by omega
    conv => whnf
    (refine ZAl (by rw [hP]; exact follows) 60 (by kernel_rfl) ?_; conv => whnf)
    repeat' (first | (refine ZQn hE0 hq ha6 ?_; conv => whnf) | (refine And.intro (by first | omega | (simp [ZAI]; omega)) ?_; conv => whnf) | (refine ZGp (by omega) (by omega) ?_; conv => whnf) | (refine And.intro ?_ ?_ <;> (conv => whnf)))
    all_goals
     intro act aw hs
     by_cases hb1 : b + 1 < E \/ a + 1 = T
     ·refine ⟨(i + 1, a, b + 1, val), ⟨⟨show i + 1 = a * E + (b + 1) by omega, ha⟩, ⟨hbE, h2⟩, fun hlt2 => ?_⟩, show T * E - (i + 1) < T * E - i by omega, ?_⟩
      ·rcases hb1 with hb1 | hb1
       ·exact hb1
       ·exact ZOr hi hb1 hlt2
      ·conv => whnf
       refine ZLc hs ?_
       refine ZAW hA [0, 1, 2, 6, 4] rfl rfl rfl ZAe ?_ rfl
       exact ⟨rfl, ⟨rfl, rfl, rfl, fun _ _ => rfl⟩, ⟨rfl, rfl, fun _ _ => rfl⟩, ⟨rfl, rfl, fun j hj => ZAx (f := rowE E a) (i := b) (by show [Value.int .i64 ((i : Int) + 1)] = [Value.int .i64 ((a : Int) * E + b + 1)]; rw [hi]; simp) j hj⟩, ⟨rfl, .inl rfl⟩, trivial⟩
     ·have hbE2 : b + 1 = E := by omega
      have ha1 : a + 1 < T := by omega
      subst hbE2
      obtain ⟨v, hs2⟩ := ZN9 (k0 := 0) (k := 6) (kz := 4) (E := b + 1) (a := a) (row := rowE (b + 1)) hs rfl rfl rfl (by decide) (by decide) (by decide) (fun j hj => ZAx (f := rowE (b + 1) a) (i := b) (by show [Value.int .i64 ((i : Int) + 1)] = [Value.int .i64 ((a : Int) * ((b + 1 : Nat) : Int) + b + 1)]; rw [hi]; simp) j hj)
      refine ⟨(i + 1, a + 1, 0, fun j => if j = a then v else val j), ⟨⟨show i + 1 = (a + 1) * (b + 1) + 0 by rw [Nat.add_mul]; omega, ha1⟩, ⟨Nat.zero_le _, h2⟩, fun _ => Nat.succ_pos b⟩, show T * (b + 1) - (i + 1) < T * (b + 1) - i by omega, ?_⟩
      conv => whnf
      refine ZLc hs2 ?_
      refine Imp.trans (ZAj ((ZAV.hole 0 (a + 1) (ZKd (a + 1) fun j => if j = a then v else val j) (.slice none 0 0) rfl ha1 (fun j hj => ?_)).trans (ZAV.nilh 0 1 (rowE (b + 1) (a + 1)) rfl))) ?_
      ·simp only [ZKd]
       by_cases e1 : j = a
       ·subst e1; rw [if_pos rfl, if_neg (by omega), if_pos (by omega), if_pos rfl]
       ·by_cases e2 : j = a + 1
        ·subst e2; rw [if_neg (by omega), if_pos rfl, if_neg (by omega)]
        ·by_cases e3 : j < a
         ·simp only [if_neg e1, if_neg e2, if_pos e3, if_pos (show j < a + 1 by omega)]
         ·simp only [if_neg e1, if_neg e2, if_neg e3, if_neg (show ¬ j < a + 1 by omega)]
      ·refine ZAW hA [0, 1, 2, 7, 4] rfl rfl rfl ZAe ?_ rfl
       exact ⟨rfl, ⟨rfl, rfl, rfl, fun _ _ => rfl⟩, ⟨rfl, rfl, fun _ _ => rfl⟩, ⟨rfl, rfl, fun _ _ => rfl⟩, ⟨rfl, .inl rfl⟩, trivial⟩
   ·replace h1 : ¬ (i : Int) < (T : Int) * (E : Int) := h1
    have h2 : i = T * E := by rw [hTE] at h1; omega
    have h3 : (a + 1) * E <= T * E := Nat.mul_le_mul_right _ ha
    rw [Nat.add_mul] at h3
    obtain rfl : b = E := by omega
    have h4 : (a + 1) * b = T * b := by rw [Nat.add_mul]; omega
    obtain rfl : a + 1 = T := Nat.eq_of_mul_eq_mul_right (by omega) h4
    conv => whnf
    refine ZBF (ZCW [2, 0, 1, 3, 4] (H := ZQm (a + 1) b val) (np := 5) 0 rfl (by decide) rfl rfl ?_ rfl) (Nat.zero_le _) ?_
    ·exact ⟨rfl, ⟨rfl, rfl, rfl, fun _ _ => rfl⟩, ⟨rfl, rfl, fun _ _ => rfl⟩, ⟨rfl, rfl, fun _ _ => rfl⟩, ⟨rfl, .inl rfl⟩, trivial⟩
    ·(refine ZAC ?_; conv => whnf); refine ⟨rfl, rfl, rfl, ?_, ?_, rfl⟩
     ·rfl
     ·exact ⟨⟨rfl, .inr ⟨fun ls => ZJO _ _ _, fun ls l F w hh => ⟨val, hh⟩⟩⟩, trivial⟩
theorem ZH9 (v : Int) : ZAH Tryz.prog 137 [] 0 [.l (.v (.int .i64 v))] fun x h n => x = ZAb (badH v) /\ n = 0 /\ h = [] := by
 refine sE Tryz.func137 ic137_eq [.t 2] fun G hP hA => ?_
 unfold evF ic137
 conv => whnf
 (repeat' (first | (refine ZAE ?_; conv => whnf) | (refine dsplit (fun _ => ?_) (fun _ => ?_) <;> conv => whnf)))
 all_goals (((refine ZAC ?_; conv => whnf); refine ⟨rfl, rfl, rfl, ZAr ?_, ZAD, rfl⟩); unfold badH; rw [Bool.eq_iff_iff]; simp; omega)
def ZBh (stp tr no ot : Nat -> Int) : Nat -> List Value := fun i => [.int .i64 (stp i), .int .i64 (tr i), .int .i64 (no i), .int .i64 (ot i)]
def ZKe (m E : Nat) (tail : Int) (st dl stp tr no ot : Nat -> Int) : Heap := [(0, some (.st [.p 1 0 0 0, .v (.pointer none), .p 2 0 0 0, .v (.int .i64 tail), .s 3 4 0 m 0])), (1, some (ZBe m st dl true false)), (2, some (ZPm m E)), (3, some (.ar 4 m (ZBh stp tr no ot)))]
def ZIA (m E : Nat) (tail : Int) (st dl stp tr no ot : Nat -> Int) : Ent := .ob [] (ZAs (ZKe m E tail st dl stp tr no ot) 4)
def ZEh (m E : Nat) (tail : Int) (st dl stp tr no ot : Nat -> Int) : Heap := [(0, some (.st [.p 2 0 0 0, .p 1 0 0 0, .p 3 0 0 0, .v (.int .i64 tail), .s 4 4 0 m 0])), (2, some (ZBe m st dl true false)), (3, some (ZPm m E)), (4, some (.ar 4 m (ZBh stp tr no ot)))]
def ZDj (hs : Nat -> Int) (M E : Nat) (h : Nat -> Int) : Nat -> Nat -> Int := ZL8 (3 * E) (ZA0 hs M (h 0)) (M + 1) h
def ZDy (ws : Nat -> Int) (M E : Nat) : Nat -> Nat -> Int := ZL8 (3 * E) (ZA0 ws M 0) (M + 1) fun _ => 0
theorem ZKf (th : Int) (M : Nat) (hs ws h : Nat -> Int) (m E : Nat) (hM : M <= 10000) (hm : 1 <= m /\ m <= 64) (hE : 1 <= E /\ E <= 8) (hb : anyZ badH h m = false) :
  ZAH Tryz.prog 109 [(0, some (ZBI th M hs ws)), (1, some (.ro 1 m (numE h)))] 2 [.l (.p 0 0 0 0), .l (.s 1 1 0 m 0), .l (.v (.int .i64 E))] fun x h' k =>
   x = .t [.l (.p 2 0 0 0), .l (.v (.int .i64 0))] /\ k = 3 /\ h' = [(0, some (ZBI th (M + 1 + 3 * E * m) (ZDj hs M E h m) (ZDy ws M E m))), (2, some (ZIA m E M (fun _ => 0) (fun _ => -1) (fun _ => 0) (fun _ => 0) (fun _ => 0) fun _ => 0))] := by
 have hse := ZCO m true false (by omega)
 have hcf := ZBP 137 badH ZH9 h m (by omega)
 rw [hb] at hcf
 have hpo := ZMD m E hm hE
 have hw1 := ZBG th M hs ws (h 0) 0 (by omega)
 refine sE Tryz.func109 ic109_eq [.t 6, .t 7] fun G hP hA => ?_
 unfold evF ic109
 conv => whnf
 (refine ZAA hP (hse) ?_; (conv => whnf); refine zA ?_; conv => whnf)
 (refine ZAA hP (hcf) ?_; (conv => whnf); refine zA ?_; conv => whnf)
 (refine ZAA hP (hpo) ?_; (conv => whnf); refine zA ?_; conv => whnf)
 (refine ZAl (by rw [hP]; exact follows) 60 (by kernel_rfl) ?_; conv => whnf)
 repeat' (first | (refine And.intro (by first | omega | (simp [ZAI]; omega)) ?_; conv => whnf) | (refine And.intro ?_ ?_ <;> (conv => whnf)))
 all_goals (refine ZAB hP (hw1) ?_; (conv => whnf); refine zA ?_; conv => whnf)
 repeat' (first | (refine And.intro (by first | omega | (simp [ZAI]; omega)) ?_; conv => whnf) | (refine And.intro ?_ ?_ <;> (conv => whnf)))
 all_goals
  refine ZAn (α := Nat) (ds := []) (N := 6) (fun i => [(49, sInt .i64 (i : Int))]) []
   (fun i => [(0, some (ZBI th (M + 1 + 3 * E * i) (ZDj hs M E h i) (ZDy ws M E i)))])
   (fun i => i <= m) (fun i => m - i) 0 (Nat.zero_le _) ?_ fun i hi => ?_
  ·(conv => whnf); (refine ZAU hA ?_; conv => whnf); exact zI
  ·have h64 : 3 * E * i <= 24 * 64 := Nat.mul_le_mul (by omega) (by omega)
   have hwi := ZH3 th (M + 1 + 3 * E * i) (ZDj hs M E h i) (ZDy ws M E i) (3 * (E : Int)) (h i) 0 (3 * E) (by omega) (by omega)
   rw [show M + 1 + 3 * E * i + 3 * E = M + 1 + 3 * E * (i + 1) from by rw [Nat.mul_succ]; omega] at hwi
   have hni : nadd 0 ((i : Nat) : Int).toNat = i := by simp [ZAI]
   conv => whnf
   refine dsplit (fun h1 => ?_) (fun h1 => ?_)
   ·replace h1 : (i : Int) < (m : Int) := h1
    conv => whnf
    (repeat' ((first | refine aI ?_ | refine a64 ?_ | refine a32 ?_ | refine a8 ?_); conv => whnf))
    rw [hni]
    conv => whnf
    (repeat' ((first | refine aI ?_ | refine a64 ?_ | refine a32 ?_ | refine a8 ?_); conv => whnf))
    (refine ZAA hP (hwi) ?_; (conv => whnf); refine zA ?_; conv => whnf)
    (repeat' ((first | refine aI ?_ | refine a64 ?_ | refine a32 ?_ | refine a8 ?_); conv => whnf))
    refine ⟨i + 1, by omega, by omega, ?_⟩
    (conv => whnf); (refine ZAU hA ?_; conv => whnf); exact zI
   ·replace h1 : ¬ (i : Int) < (m : Int) := h1
    obtain rfl : i = m := by omega
    conv => whnf
    (refine ZAG (H := (ZKe i E M (fun _ => 0) (fun _ => -1) (fun _ => 0) (fun _ => 0) (fun _ => 0) fun _ => 0)) (np := 4) 5 0 (Nat.le_of_ble_eq_true rfl) ?_; conv => whnf); (refine zK ?_)
    (refine ZAC ?_; conv => whnf); exact zF
theorem ZIB (m : Nat) (tail : Int) (n : Nat) (st dl nu stp : Nat -> Int) :
  ZAH Tryz.prog 232 [(0, some (ZH7 m tail n st dl nu stp))] 2 [.l (.p 0 0 0 0), .l (.p 1 0 0 0)] fun x h k =>
   x = .t [] /\ k = 2 /\ h = [(0, some (ZEN (ZBX m tail n st dl nu stp) 4 1))] := by
 refine sG (ZAd 0 (h := [(0, some (ZH7 m tail n st dl nu stp))]) (n := 2) (ks := []) (H := ZKb m tail n st dl nu stp) (np := 3) rfl (by decide) rfl rfl rfl) Tryz.func232 ic232_eq [] fun G hP hA => ?_
 unfold evF ic232
 conv => whnf
 (refine ZAG (H := (ZBX m tail n st dl nu stp)) (np := 4) 0 1 (Nat.le_of_ble_eq_true rfl) ?_; conv => whnf); (refine zK ?_)
 (refine ZAC ?_; conv => whnf); exact zF
theorem ZJP (v : Value) (args : Array Value) (w : World) : (callMethod (.iface 224 v) "Use" args).run Tryz.prog w = .ok (.enter 232 (#[v] ++ args)) w := by kernel_rfl
theorem ZPn (th : Int) (hs ws h : Nat -> Int) (m : Nat) (start slots : Nat) (pool budget glob loc : Int) (hm : 1 <= m /\ m <= 64) (hu : start < 4294967296) (hn : ZCd slots) (hmn : m <= slots) (hb : anyZ badH h m = false) :
  ZAH Tryz.prog 64 [(0, some (ZBI th 0 hs ws)), (1, some (.ro 1 m (numE h)))] 2 [.l (.p 0 0 0 0), ZB8 2 1 m start slots pool budget glob loc] fun x h' k =>
   x = .t [.l (.i 224 2), .l (.v (.int .i64 0))] /\ k = 3 /\ h' = [(0, some (ZBI th (1 + slots) (ZDi hs 0 h m slots) (ZGU ws 0 start slots))), (2, some (ZH7 m 0 slots (fun _ => 0) (fun _ => -1) (fun _ => 0) fun _ => 0))] := by
 have hcn := ZKc th 0 hs ws h m slots start (by omega) hm hb hu hn hmn
 rw [show 0 + 1 + slots = 1 + slots by omega] at hcn
 refine sE Tryz.func64 ic64_eq [.t 4, .t 5] fun G hP hA => ?_
 unfold evF ic64
 conv => whnf
 (refine ZAA hP (hcn) ?_; (conv => whnf); refine zA ?_; conv => whnf)
 (refine ZAC ?_; conv => whnf); exact zF
theorem ZJQ {hs h : Nat -> Int} {m n : Nat} (hm : 1 <= m /\ m <= 64) (hb : anyZ badH h m = false) : anyZ badH (ZDi hs 0 h m n) (1 + n) = false := by
 have h0 := ZAy.1 hb
 refine ZAy.2 fun j hj => ?_
 refine ZDe (Q := fun x => badH x = false) (m := 0 + 1) (fun j hj => ?_) n (fun j hj => h0 _ (Nat.mod_lt _ (by omega))) j (by omega)
 exact ZBT (Q := fun x => badH x = false) (fun j hj => absurd hj (Nat.not_lt_zero _)) (h0 0 (by omega)) j
theorem ZJR (h : Nat -> Int) (m : Nat) (start slots : Nat) (pool budget glob loc : Int) (hm : 1 <= m /\ m <= 64) (hu : start < 4294967296) (hn : ZCd slots) (hmn : m <= slots) (hb : anyZ badH h m = false) :
  ZAH Tryz.prog 33 [(0, some (.ro 1 m (numE h)))] 1 [ZB8 2 0 m start slots pool budget glob loc] fun x h' k =>
   x = .t [.l (.i 224 1), .l (.p 2 0 0 0), .l (.v (.int .i64 0))] /\ k = 3 /\ h' = [(1, some (.ob [2] (ZAs (ZBX m 0 slots (fun _ => 0) (fun _ => -1) (fun _ => 0) fun _ => 0) 4))),
    (2, some (ZBg m (1 + slots) (cutF (ZGU (fun _ => 0) 0 start slots) (1 + slots)) (ZDi (fun _ => 0) 0 h m slots) (fun _ => 0) (fun _ => 0) (fun _ => 0) fun _ => 0))] := by
 have hpn := ZBf (m : Int) (fun _ => 0) fun _ => 0
 have hly := ZPn (m : Int) (fun _ => 0) (fun _ => 0) h m start slots pool budget glob loc hm hu hn hmn hb
 have hpp := ZBy m (1 + slots) (ZDi (fun _ => 0) 0 h m slots) (ZGU (fun _ => 0) 0 start slots) hm (by first | omega | (unfold ZCd at hn; omega)) (ZJQ hm hb)
 have hu := ZIB m 0 slots (fun _ => 0) (fun _ => -1) (fun _ => 0) fun _ => 0
 refine sE Tryz.func33 ic33_eq [.t 2, .t 3, .t 4] fun G hP hA => ?_
 unfold evF ic33
 conv => whnf
 (repeat' ((first | refine aI ?_ | refine a64 ?_ | refine a32 ?_ | refine a8 ?_); conv => whnf))
 (refine ZAA hP (hpn) ?_; (conv => whnf); refine zA ?_; conv => whnf)
 (refine ZAA hP (hly) ?_; (conv => whnf); refine zA ?_; conv => whnf)
 (refine ZAA hP (hpp) ?_; (conv => whnf); refine zA ?_; conv => whnf)
 refine ZBs hP ZJP ?_
 (refine ZAA hP (hu) ?_; (conv => whnf); refine zA ?_; conv => whnf)
 (refine ZAC ?_; conv => whnf); exact zF
theorem ZIC (m E : Nat) (tail : Int) (st dl stp tr no ot : Nat -> Int) :
  ZAH Tryz.prog 253 [(0, some (ZIA m E tail st dl stp tr no ot))] 2 [.l (.p 0 0 0 0), .l (.p 1 0 0 0)] fun x h k =>
   x = .t [] /\ k = 2 /\ h = [(0, some (ZEN (ZEh m E tail st dl stp tr no ot) 5 1))] := by
 refine sG (ZAd 0 (h := [(0, some (ZIA m E tail st dl stp tr no ot))]) (n := 2) (ks := []) (H := ZKe m E tail st dl stp tr no ot) (np := 4) rfl (by decide) rfl rfl rfl) Tryz.func253 ic253_eq [] fun G hP hA => ?_
 unfold evF ic253
 conv => whnf
 (refine ZAG (H := (ZEh m E tail st dl stp tr no ot)) (np := 5) 0 1 (Nat.le_of_ble_eq_true rfl) ?_; conv => whnf); (refine zK ?_)
 (refine ZAC ?_; conv => whnf); exact zF
theorem ZJS (v : Value) (args : Array Value) (w : World) : (callMethod (.iface 233 v) "Use" args).run Tryz.prog w = .ok (.enter 253 (#[v] ++ args)) w := by kernel_rfl
theorem ZPo (th : Int) (hs ws h : Nat -> Int) (m : Nat) (pool : Nat) (start slots budget glob loc : Int) (hm : 1 <= m /\ m <= 64) (hE : 1 <= pool /\ pool <= 8) (hb : anyZ badH h m = false) :
  ZAH Tryz.prog 64 [(0, some (ZBI th 0 hs ws)), (1, some (.ro 1 m (numE h)))] 2 [.l (.p 0 0 0 0), ZB8 5 1 m start slots pool budget glob loc] fun x h' k =>
   x = .t [.l (.i 233 2), .l (.v (.int .i64 0))] /\ k = 3 /\ h' = [(0, some (ZBI th (1 + 3 * pool * m) (ZDj hs 0 pool h m) (ZDy ws 0 pool m))), (2, some (ZIA m pool 0 (fun _ => 0) (fun _ => -1) (fun _ => 0) (fun _ => 0) (fun _ => 0) fun _ => 0))] := by
 have hcn := ZKf th 0 hs ws h m pool (by omega) hm hE hb
 rw [show 0 + 1 + 3 * pool * m = 1 + 3 * pool * m by omega] at hcn
 refine sE Tryz.func64 ic64_eq [.t 4, .t 5] fun G hP hA => ?_
 unfold evF ic64
 conv => whnf
 (refine ZAA hP (hcn) ?_; (conv => whnf); refine zA ?_; conv => whnf)
 (refine ZAC ?_; conv => whnf); exact zF
theorem ZJT {hs h : Nat -> Int} {m E : Nat} (hm : 1 <= m /\ m <= 64) (hb : anyZ badH h m = false) : anyZ badH (ZDj hs 0 E h m) (1 + 3 * E * m) = false := by
 have h0 := ZAy.1 hb
 refine ZAy.2 fun j hj => ?_
 refine ZFv (Q := fun x => badH x = false) (q := 3 * E) (m := 0 + 1) (fun j hj => ?_) m (fun j hj => h0 j hj) j (by omega)
 exact ZBT (Q := fun x => badH x = false) (fun j hj => absurd hj (Nat.not_lt_zero _)) (h0 0 (by omega)) j
theorem ZJU (h : Nat -> Int) (m : Nat) (pool : Nat) (start slots budget glob loc : Int) (hm : 1 <= m /\ m <= 64) (hE : 1 <= pool /\ pool <= 8) (hb : anyZ badH h m = false) :
  ZAH Tryz.prog 33 [(0, some (.ro 1 m (numE h)))] 1 [ZB8 5 0 m start slots pool budget glob loc] fun x h' k =>
   x = .t [.l (.i 233 1), .l (.p 2 0 0 0), .l (.v (.int .i64 0))] /\ k = 3 /\ h' = [(1, some (.ob [2] (ZAs (ZEh m pool 0 (fun _ => 0) (fun _ => -1) (fun _ => 0) (fun _ => 0) (fun _ => 0) fun _ => 0) 5))),
    (2, some (ZBg m (1 + 3 * pool * m) (cutF (ZDy (fun _ => 0) 0 pool m) (1 + 3 * pool * m)) (ZDj (fun _ => 0) 0 pool h m) (fun _ => 0) (fun _ => 0) (fun _ => 0) fun _ => 0))] := by
 have hpn := ZBf (m : Int) (fun _ => 0) fun _ => 0
 have hly := ZPo (m : Int) (fun _ => 0) (fun _ => 0) h m pool start slots budget glob loc hm hE hb
 have hpp := ZBy m (1 + 3 * pool * m) (ZDj (fun _ => 0) 0 pool h m) (ZDy (fun _ => 0) 0 pool m) hm (by first | omega | (have := Nat.mul_le_mul (show 3 * pool <= 24 by omega) hm.2; omega)) (ZJT hm hb)
 have hu := ZIC m pool 0 (fun _ => 0) (fun _ => -1) (fun _ => 0) (fun _ => 0) (fun _ => 0) fun _ => 0
 refine sE Tryz.func33 ic33_eq [.t 2, .t 3, .t 4] fun G hP hA => ?_
 unfold evF ic33
 conv => whnf
 (repeat' ((first | refine aI ?_ | refine a64 ?_ | refine a32 ?_ | refine a8 ?_); conv => whnf))
 (refine ZAA hP (hpn) ?_; (conv => whnf); refine zA ?_; conv => whnf)
 (refine ZAA hP (hly) ?_; (conv => whnf); refine zA ?_; conv => whnf)
 (refine ZAA hP (hpp) ?_; (conv => whnf); refine zA ?_; conv => whnf)
 refine ZBs hP ZJS ?_
 (refine ZAA hP (hu) ?_; (conv => whnf); refine zA ?_; conv => whnf)
 (refine ZAC ?_; conv => whnf); exact zF
structure SL where
 ss : SS
 nu : Nat -> Int
 sp : Nat -> Int
def ZEO (n nt nw : Nat) (tail : Int) (m : Nat) (hs : Nat -> Int) (L : SL) (s : PS) : Heap := (1, some (ZBO nt nw hs s)) :: ZBX n tail m L.ss.st L.ss.dl L.nu L.sp
def ZOZ (m : Nat) (u : Int) : Int := bitZ .and .u32 u ((m : Int) - 1)
theorem ZLH (o : BinOp) (a b : Int) : 0 <= bitZ o .u32 a b /\ bitZ o .u32 a b <= 4294967295 := by
 have h : ∀ r : Nat, 0 <= IntKind.wrap .u32 (r : Int) /\ IntKind.wrap .u32 (r : Int) <= 4294967295 := fun r => by simp [IntKind.wrap, IntKind.signed, IntKind.bits]; omega
 cases o <;> exact h _
theorem ZOa (u : Int) (n : Nat) (hn : ZCd n) :
  ZAH Tryz.prog 133 [] 0 [.l (.v (.int .u32 u)), .l (.v (.int .i64 n))] fun x h k => x = sInt .i64 (ZOZ n u) /\ k = 0 /\ h = [] := by
 have b0 := ZLH .and u ((n : Int) - 1)
 refine sE Tryz.func133 ic133_eq [.t 4] fun G hP hA => ?_
 unfold evF ic133
 rcases hn with rfl | rfl | rfl | rfl | rfl | rfl | rfl
 all_goals
  conv => whnf
  (repeat' ((first | refine aI ?_ | refine a64 ?_ | refine a32 ?_ | refine a8 ?_); conv => whnf))
  (refine ZAC ?_; conv => whnf); refine ⟨rfl, rfl, rfl, ZBB ?_, ZAD, rfl⟩
  rfl
def slA (tail : Int) (m : Nat) (u : Int) : Int := tail + 1 + ZOZ m u
theorem ZEu (n nt nw m : Nat) (tail u : Int) (hs : Nat -> Int) (L : SL) (s : PS) (hm : ZCd m) (htl : 0 <= tail /\ tail <= 4096) :
  ZAH Tryz.prog 234 (ZEO n nt nw tail m hs L s) 4 [.l (.p 0 0 0 0), .l (.v (.int .u32 u))] fun x h k => x = sInt .i64 (slA tail m u) /\ k = 4 /\ h = ZEO n nt nw tail m hs L s := by
 have hsl := ZOa u m hm
 have b0 := ZLH .and u ((m : Int) - 1)
 refine sE Tryz.func234 ic234_eq [.t 4] fun G hP hA => ?_
 unfold evF ic234
 conv => whnf
 (refine dI hP ?_; conv => whnf)
 (repeat' ((first | refine aI ?_ | refine a64 ?_ | refine a32 ?_ | refine a8 ?_); conv => whnf))
 (refine ZAB hP (hsl) ?_; (conv => whnf); refine zA ?_; conv => whnf)
 have hz : 0 <= ZOZ m u /\ ZOZ m u <= 4294967295 := b0
 (repeat' ((first | refine aI ?_ | refine a64 ?_ | refine a32 ?_ | refine a8 ?_); conv => whnf))
 (repeat (refine oI ?_; conv => whnf))
 conv => whnf
 (refine ZAC ?_; conv => whnf); exact zF
def slLk (nw : Nat) (tail : Int) (m t ta : Nat) (L : SL) (s : PS) : Dd × SL × PS :=
 pick (decide (L.sp t = 0)) (⟨0, true, false, false⟩, ⟨L.ss, updF L.nu t (adV nw tail 1 s), updF L.sp t 1⟩, adS nw ta tail 1 s)
  (pick (decide (L.sp t = 1)) (evD 0, ⟨L.ss, L.nu, pick (decide (rdV nw (slA tail m (L.nu t)) s = 0)) L.sp (updF L.sp t 2)⟩, rdS nw ta (slA tail m (L.nu t)) s)
   (evD 1, L, wtS nw ta (slA tail m (L.nu t)) 0 s))
def ZMp (nw : Nat) (tail : Int) (m t ta : Nat) (L : SL) (s : PS) : Dd × SL × PS :=
 pick (decide (L.ss.st t = 1)) (slLk nw tail m t ta L s) (pick (decide (L.ss.st t = 3)) (evD 3, ⟨L.ss, updF L.nu t 0, updF L.sp t 0⟩, wtS nw ta (slA tail m (u32p (L.nu t))) 1 s) (evD 0, L, s))
def ZMq (t : Nat) (r : Dd × SL × PS) : Dd × SL × PS := (r.1, ⟨enSS r.2.1.ss t r.1.e, r.2.1.nu, r.2.1.sp⟩, r.2.2)
def ZCv (n nw : Nat) (tail : Int) (m : Nat) (t : Int) (ta : Nat) (L : SL) (s : PS) : Dd × SL × PS :=
 match inW n t with | true => ZMq t.toNat (ZMp nw tail m t.toNat ta L s) | false => (evD 0, L, s)
theorem ZQ6 (f g : Nat -> Int) (i : Nat) (v : Int) (j : Nat) : mrgL (j = i) (ZAL (ZE5 f g j) 0 [.int .u32 v]) (ZE5 f g j) = ZE5 (updF f i v) g j := by
 simp only [ZE5, updF, ZAL, setL, mrgL, ZBJ]
 by_cases h : j = i <;> simp [h]
theorem ZQe (f g : Nat -> Int) (i : Nat) (v : Int) (j : Nat) : mrgL (j = i) (ZAL (ZE5 f g j) 1 [.int .i64 v]) (ZE5 f g j) = ZE5 f (updF g i v) j := by
 simp only [ZE5, updF, ZAL, setL, mrgL, ZBJ]
 by_cases h : j = i <;> simp [h]
theorem ZQ7 (f g : Nat -> Int) (i : Nat) (u v : Int) (j : Nat) : mrgL (j = i) (ZAL (ZE5 f g j) 0 [.int .u32 u, .int .i64 v]) (ZE5 f g j) = ZE5 (updF f i u) (updF g i v) j := by
 simp only [ZE5, updF, ZAL, setL, mrgL, ZBJ]
 by_cases h : j = i <;> simp [h]
theorem ZMr (n nt nw m t ta : Nat) (tail : Int) (hs : Nat -> Int) (L : SL) (s : PS) (ht : t < n) (hta : ta < nt) (hnt : nt <= 64) (hn : n <= 64) (hnw : nw <= 4096) (hm : ZCd m) (htl : 0 <= tail /\ tail <= 4096) :
  ZAH Tryz.prog 233 (ZEO n nt nw tail m hs L s) 4 [.l (.p 0 0 0 0), .l (.p 3 2 t 0), .l (.v (.int .i64 ta))] fun x h k =>
   x = didO (slLk nw tail m t ta L s).1 /\ k = 4 /\ h = ZEO n nt nw tail m hs (slLk nw tail m t ta L s).2.1 (slLk nw tail m t ta L s).2.2 := by
 have hpa := adSp nt nw hs s ta tail 1 hta hnt hnw
 have hpl := ldS nt nw hs s ta (slA tail m (L.nu t)) hta hnt hnw
 have hps := stS nt nw hs s ta (slA tail m (L.nu t)) 0 hta hnt hnw
 have hsl := ZEu n nt nw m tail (L.nu t) hs L s hm htl
 refine sE Tryz.func233 ic233_eq [.ca 6 4] fun G hP hA => ?_
 unfold evF ic233 slLk
 by_cases h0 : L.sp t = 0
 ·simp only [h0, decide_true, pick]
  conv => whnf
  (repeat (first | (refine mS ?_; conv => whnf) | rw [natI] | rw [ZAF] | ((first | refine ZAA hP hpa ?_ | refine ZAB hP hpa ?_); (conv => whnf); refine zA ?_; conv => whnf) | (refine arW ?_; conv => whnf)))
  (refine ZAC ?_; conv => whnf); refine ⟨rfl, rfl, rfl, ?_, ?_, rfl⟩
  ·rfl
  ·exact ⟨ZAD, rfl, ZAD, ⟨rfl, rfl, fun j hj => by simp only [Nat.zero_add, ZQ6, ZQe]⟩, trivial⟩
 by_cases h1 : L.sp t = 1
 ·by_cases hz : rdV nw (slA tail m (L.nu t)) s = 0
  ·simp only [Int.reduceEq, h0, h1, hz, decide_true, decide_false, pick]
   conv => whnf
   (repeat (first | (refine mS ?_; conv => whnf) | rw [natI] | rw [ZAF] | ((first | refine ZAA hP hsl ?_ | refine ZAB hP hsl ?_ | refine ZAA hP hpl ?_ | refine ZAB hP hpl ?_); (conv => whnf); refine zA ?_; conv => whnf) | (refine arW ?_; conv => whnf)))
   (refine ZAC ?_; conv => whnf); exact zF
  ·simp only [Int.reduceEq, h0, h1, hz, decide_true, decide_false, pick]
   conv => whnf
   (repeat (first | (refine mS ?_; conv => whnf) | rw [natI] | rw [ZAF] | ((first | refine ZAA hP hsl ?_ | refine ZAB hP hsl ?_ | refine ZAA hP hpl ?_ | refine ZAB hP hpl ?_); (conv => whnf); refine zA ?_; conv => whnf) | (refine arW ?_; conv => whnf)))
   (refine ZAC ?_; conv => whnf); refine ⟨rfl, rfl, rfl, ?_, ?_, rfl⟩
   ·rfl
   ·exact ⟨ZAD, rfl, ZAD, ⟨rfl, rfl, fun j hj => by simp only [Nat.zero_add, ZQe]⟩, trivial⟩
 ·simp only [h0, h1, decide_false, pick]
  conv => whnf
  (repeat (first | (refine mS ?_; conv => whnf) | rw [natI] | rw [ZAF] | ((first | refine ZAA hP hsl ?_ | refine ZAB hP hsl ?_ | refine ZAA hP hps ?_ | refine ZAB hP hps ?_); (conv => whnf); refine zA ?_; conv => whnf) | (refine arW ?_; conv => whnf)))
  (refine ZAC ?_; conv => whnf); exact zF
theorem ZMs (n nt nw m t ta : Nat) (tail now : Int) (hs : Nat -> Int) (L : SL) (s : PS) (ht : t < n) (hta : ta < nt) (hnt : nt <= 64) (hn : n <= 64) (hnw : nw <= 4096) (hm : ZCd m) (htl : 0 <= tail /\ tail <= 4096) :
  ZAH Tryz.prog 231 (ZEO n nt nw tail m hs L s) 4 [.l (.p 0 0 0 0), .l (.v (.int .i64 t)), .l (.v (.int .i64 ta)), .l (.v (.int .i64 now))] fun x h k =>
   x = didO (ZMq t (ZMp nw tail m t ta L s)).1 /\ k = 4 /\ h = ZEO n nt nw tail m hs (ZMq t (ZMp nw tail m t ta L s)).2.1 (ZMq t (ZMp nw tail m t ta L s)).2.2 := by
 have hst := ZBC n L.ss.st L.ss.dl false false t ht hn
 have hlk := ZMr n nt nw m t ta tail hs L s ht hta hnt hn hnw hm htl
 refine sE Tryz.func231 ic231_eq [.ca 8 4] fun G hP hA => ?_
 unfold evF ic231 ZMp ZMq
 by_cases h1 : L.ss.st t = 1
 ·rw [h1] at hst
  simp only [h1, decide_true, pick]
  generalize slLk nw tail m t ta L s = r at hlk ⊢
  have hen := ZAa n r.2.1.ss.st r.2.1.ss.dl false false t r.1.e ht hn
  conv => whnf
  (repeat (first | (refine mS ?_; conv => whnf) | rw [natI] | rw [ZAF] | ((first | refine ZAA hP hst ?_ | refine ZAB hP hst ?_ | refine ZAA hP hlk ?_ | refine ZAB hP hlk ?_ | refine ZAA hP hen ?_ | refine ZAB hP hen ?_); (conv => whnf); refine zA ?_; conv => whnf) | (refine arW ?_; conv => whnf)))
  (refine ZAC ?_; conv => whnf); exact zF
 by_cases h3 : L.ss.st t = 3
 ·rw [h3] at hst
  simp only [Int.reduceEq, h3, decide_true, decide_false, pick]
  have hsl := ZEu n nt nw m tail (u32p (L.nu t)) hs L s hm htl
  have hps := stS nt nw hs s ta (slA tail m (u32p (L.nu t))) 1 hta hnt hnw
  have hen := ZAa n L.ss.st L.ss.dl false false t 3 ht hn
  conv => whnf
  (repeat (first | (refine mS ?_; conv => whnf) | rw [natI] | rw [ZAF] | ((first | refine ZAA hP hst ?_ | refine ZAB hP hst ?_ | refine ZAA hP hsl ?_ | refine ZAB hP hsl ?_ | refine ZAA hP hps ?_ | refine ZAB hP hps ?_ | refine ZAA hP hen ?_ | refine ZAB hP hen ?_); (conv => whnf); refine zA ?_; conv => whnf) | (refine arW ?_; conv => whnf)))
  (refine ZAC ?_; conv => whnf); refine ⟨rfl, rfl, rfl, ?_, ?_, rfl⟩
  ·rfl
  ·exact ⟨ZAD, rfl, ZAD, ⟨rfl, rfl, fun j hj => by simp only [Nat.zero_add, ZQ7]⟩, trivial⟩
 ·have hen := ZAa n L.ss.st L.ss.dl false false t 0 ht hn
  simp only [h1, h3, decide_false, pick]
  conv => whnf
  (repeat (first | (refine mS ?_; conv => whnf) | rw [natI] | rw [ZAF] | ((first | refine ZAA hP hst ?_ | refine ZAB hP hst ?_ | refine ZAA hP hen ?_ | refine ZAB hP hen ?_); (conv => whnf); refine zA ?_; conv => whnf) | (refine arW ?_; conv => whnf)))
  (refine ZAC ?_; conv => whnf); exact zF
structure CL where
 ss : SS
 no : Nat -> Int
 ah : Nat -> Int
 sp : Nat -> Int
def clhG (n nt nw : Nat) (tail : Int) (hs : Nat -> Int) (L : CL) (s : PS) : Heap := (1, some (ZBO nt nw hs s)) :: ZDY n tail L.ss.st L.ss.dl L.no L.ah L.sp
def i64w (x : Int) : Int := IntKind.i64.wrap x
def u32w (x : Int) : Int := IntKind.u32.wrap x
def clA (tail k : Int) : Int := i64w (tail + 1 + k)
theorem ZEa (n nt nw : Nat) (tail k : Int) (hs : Nat -> Int) (L : CL) (s : PS) (htl : 0 <= tail /\ tail <= 4096) :
  ZAH Tryz.prog 238 (clhG n nt nw tail hs L s) 4 [.l (.p 0 0 0 0), .l (.v (.int .i64 k))] fun x h m => x = sInt .i64 (clA tail k) /\ m = 4 /\ h = clhG n nt nw tail hs L s := by
 refine sE Tryz.func238 ic238_eq [.t 4] fun G hP hA => ?_
 unfold evF ic238
 conv => whnf
 (repeat (first | (refine mS ?_; conv => whnf) | rw [natI] | rw [ZAF] | (refine arW ?_; conv => whnf)))
 (refine ZAC ?_; conv => whnf); exact zF
def clLk (nw : Nat) (tail : Int) (t ta : Nat) (L : CL) (s : PS) : Dd × CL × PS :=
 pick (decide (L.sp t = 0)) (evD 0, ⟨L.ss, L.no, L.ah, updF L.sp t 1⟩, wtS nw ta (clA tail (L.no t)) 1 s)
  (pick (decide (L.sp t = 1)) (⟨0, true, false, false⟩, ⟨L.ss, L.no, updF L.ah t (i64w (rdV nw tail s)), updF L.sp t 2⟩, wtS nw ta tail (u32w (L.no t)) s)
   (pick (decide (L.sp t = 2)) (evD (pick (decide (rdV nw (clA tail (L.ah t)) s = 0)) 1 0), L, rdS nw ta (clA tail (L.ah t)) s) (evD 0, L, s)))
def ZMt (nw : Nat) (tail : Int) (t ta : Nat) (L : CL) (s : PS) : Dd × CL × PS :=
 pick (decide (L.ss.st t = 1)) (clLk nw tail t ta L s) (pick (decide (L.ss.st t = 3)) (evD 3, ⟨L.ss, updF L.no t (L.ah t), updF L.ah t 0, updF L.sp t 0⟩, wtS nw ta (clA tail (L.no t)) 0 s)
  (pick (decide (L.ss.st t = 4)) (evD (pick (decide (rdV nw tail s = u32w (L.no t))) 4 5), L, rdS nw ta tail s) (evD 0, L, s)))
def ZMu (t : Nat) (r : Dd × CL × PS) : Dd × CL × PS := (r.1, ⟨enSS r.2.1.ss t r.1.e, r.2.1.no, r.2.1.ah, r.2.1.sp⟩, r.2.2)
def ZCc (n nw : Nat) (tail : Int) (t : Int) (ta : Nat) (L : CL) (s : PS) : Dd × CL × PS :=
 match inW n t with | true => ZMu t.toNat (ZMt nw tail t.toNat ta L s) | false => (evD 0, L, s)
theorem ZQ8 (f g h : Nat -> Int) (i : Nat) (v : Int) (j : Nat) : mrgL (j = i) (ZAL (clhE f g h j) 1 [.int .i64 v]) (clhE f g h j) = clhE f (updF g i v) h j := by
 simp only [clhE, updF, ZAL, setL, mrgL, ZBJ]
 by_cases h : j = i <;> simp [h]
theorem ZQf (f g h : Nat -> Int) (i : Nat) (v : Int) (j : Nat) : mrgL (j = i) (ZAL (clhE f g h j) 2 [.int .i64 v]) (clhE f g h j) = clhE f g (updF h i v) j := by
 simp only [clhE, updF, ZAL, setL, mrgL, ZBJ]
 by_cases h : j = i <;> simp [h]
theorem ZQ9 (f g h : Nat -> Int) (i : Nat) (u v x : Int) (j : Nat) : mrgL (j = i) (ZAL (clhE f g h j) 0 [.int .i64 u, .int .i64 v, .int .i64 x]) (clhE f g h j) = clhE (updF f i u) (updF g i v) (updF h i x) j := by
 simp only [clhE, updF, ZAL, setL, mrgL, ZBJ]
 by_cases h : j = i <;> simp [h]
theorem ZMv (n nt nw t ta : Nat) (tail : Int) (hs : Nat -> Int) (L : CL) (s : PS) (ht : t < n) (hta : ta < nt) (hnt : nt <= 64) (hn : n <= 64) (hnw : nw <= 4096) (htl : 0 <= tail /\ tail <= 4096) :
  ZAH Tryz.prog 237 (clhG n nt nw tail hs L s) 4 [.l (.p 0 0 0 0), .l (.p 3 3 t 0), .l (.v (.int .i64 ta))] fun x h k =>
   x = didO (clLk nw tail t ta L s).1 /\ k = 4 /\ h = clhG n nt nw tail hs (clLk nw tail t ta L s).2.1 (clLk nw tail t ta L s).2.2 := by
 have h1 := stS nt nw hs s ta (clA tail (L.no t)) 1 hta hnt hnw
 have h2 := swS nt nw hs s ta tail (u32w (L.no t)) hta hnt hnw
 have h3 := ldS nt nw hs s ta (clA tail (L.ah t)) hta hnt hnw
 have hf := ZEa n nt nw tail (L.no t) hs L s htl
 have hg := ZEa n nt nw tail (L.ah t) hs L s htl
 refine sE Tryz.func237 ic237_eq [.ca 6 4] fun G hP hA => ?_
 unfold evF ic237 clLk
 by_cases e0 : L.sp t = 0
 ·simp only [e0, decide_true, pick]
  conv => whnf
  (repeat (first | (refine mS ?_; conv => whnf) | rw [natI] | rw [ZAF] | ((first | refine ZAA hP hf ?_ | refine ZAB hP hf ?_ | refine ZAA hP h1 ?_ | refine ZAB hP h1 ?_); (conv => whnf); refine zA ?_; conv => whnf) | (refine arW ?_; conv => whnf)))
  (refine ZAC ?_; conv => whnf); refine ⟨rfl, rfl, rfl, ?_, ?_, rfl⟩
  ·rfl
  ·exact ⟨ZAD, rfl, ZAD, ⟨rfl, rfl, fun j hj => by simp only [Nat.zero_add, ZQf]⟩, trivial⟩
 by_cases e1 : L.sp t = 1
 ·simp only [Int.reduceEq, e0, e1, decide_true, decide_false, pick]
  conv => whnf
  (repeat (first | (refine mS ?_; conv => whnf) | rw [natI] | rw [ZAF] | ((first | refine ZAA hP h2 ?_ | refine ZAB hP h2 ?_); (conv => whnf); refine zA ?_; conv => whnf) | (refine arW ?_; conv => whnf)))
  (refine ZAC ?_; conv => whnf); refine ⟨rfl, rfl, rfl, ?_, ?_, rfl⟩
  ·rfl
  ·exact ⟨ZAD, rfl, ZAD, ⟨rfl, rfl, fun j hj => by simp only [Nat.zero_add, ZQ8, ZQf]; rfl⟩, trivial⟩
 by_cases e2 : L.sp t = 2
 ·by_cases ez : rdV nw (clA tail (L.ah t)) s = 0
  ·simp only [Int.reduceEq, e0, e1, e2, ez, decide_true, decide_false, pick]
   conv => whnf
   (repeat (first | (refine mS ?_; conv => whnf) | rw [natI] | rw [ZAF] | ((first | refine ZAA hP hg ?_ | refine ZAB hP hg ?_ | refine ZAA hP h3 ?_ | refine ZAB hP h3 ?_); (conv => whnf); refine zA ?_; conv => whnf) | (refine arW ?_; conv => whnf)))
   (refine ZAC ?_; conv => whnf); exact zF
  ·simp only [Int.reduceEq, e0, e1, e2, ez, decide_true, decide_false, pick]
   conv => whnf
   (repeat (first | (refine mS ?_; conv => whnf) | rw [natI] | rw [ZAF] | ((first | refine ZAA hP hg ?_ | refine ZAB hP hg ?_ | refine ZAA hP h3 ?_ | refine ZAB hP h3 ?_); (conv => whnf); refine zA ?_; conv => whnf) | (refine arW ?_; conv => whnf)))
   (refine ZAC ?_; conv => whnf); exact zF
 ·simp only [e0, e1, e2, decide_false, pick]
  conv => whnf
  (repeat (first | (refine mS ?_; conv => whnf) | rw [natI] | rw [ZAF] | (refine arW ?_; conv => whnf)))
  (refine ZAC ?_; conv => whnf); exact zF
theorem ZMw (n nt nw t ta : Nat) (tail now : Int) (hs : Nat -> Int) (L : CL) (s : PS) (ht : t < n) (hta : ta < nt) (hnt : nt <= 64) (hn : n <= 64) (hnw : nw <= 4096) (htl : 0 <= tail /\ tail <= 4096) :
  ZAH Tryz.prog 235 (clhG n nt nw tail hs L s) 4 [.l (.p 0 0 0 0), .l (.v (.int .i64 t)), .l (.v (.int .i64 ta)), .l (.v (.int .i64 now))] fun x h k =>
   x = didO (ZMu t (ZMt nw tail t ta L s)).1 /\ k = 4 /\ h = clhG n nt nw tail hs (ZMu t (ZMt nw tail t ta L s)).2.1 (ZMu t (ZMt nw tail t ta L s)).2.2 := by
 have hst := ZBC n L.ss.st L.ss.dl false true t ht hn
 have hlk := ZMv n nt nw t ta tail hs L s ht hta hnt hn hnw htl
 have hf := ZEa n nt nw tail (L.no t) hs L s htl
 refine sE Tryz.func235 ic235_eq [.ca 8 4] fun G hP hA => ?_
 unfold evF ic235 ZMt ZMu
 by_cases e1 : L.ss.st t = 1
 ·rw [e1] at hst
  simp only [e1, decide_true, pick]
  generalize clLk nw tail t ta L s = r at hlk ⊢
  have hen := ZAa n r.2.1.ss.st r.2.1.ss.dl false true t r.1.e ht hn
  conv => whnf
  (repeat (first | (refine mS ?_; conv => whnf) | rw [natI] | rw [ZAF] | ((first | refine ZAA hP hst ?_ | refine ZAB hP hst ?_ | refine ZAA hP hlk ?_ | refine ZAB hP hlk ?_ | refine ZAA hP hen ?_ | refine ZAB hP hen ?_); (conv => whnf); refine zA ?_; conv => whnf) | (refine arW ?_; conv => whnf)))
  (refine ZAC ?_; conv => whnf); exact zF
 by_cases e3 : L.ss.st t = 3
 ·rw [e3] at hst
  simp only [Int.reduceEq, e3, decide_true, decide_false, pick]
  have hps := stS nt nw hs s ta (clA tail (L.no t)) 0 hta hnt hnw
  have hen := ZAa n L.ss.st L.ss.dl false true t 3 ht hn
  conv => whnf
  (repeat (first | (refine mS ?_; conv => whnf) | rw [natI] | rw [ZAF] | ((first | refine ZAA hP hst ?_ | refine ZAB hP hst ?_ | refine ZAA hP hf ?_ | refine ZAB hP hf ?_ | refine ZAA hP hps ?_ | refine ZAB hP hps ?_ | refine ZAA hP hen ?_ | refine ZAB hP hen ?_); (conv => whnf); refine zA ?_; conv => whnf) | (refine arW ?_; conv => whnf)))
  (refine ZAC ?_; conv => whnf); refine ⟨rfl, rfl, rfl, ?_, ?_, rfl⟩
  ·rfl
  ·exact ⟨ZAD, rfl, ZAD, ⟨rfl, rfl, fun j hj => by simp only [Nat.zero_add, ZQ9]⟩, trivial⟩
 by_cases e4 : L.ss.st t = 4
 ·rw [e4] at hst
  have hpl := ldS nt nw hs s ta tail hta hnt hnw
  by_cases ez : rdV nw tail s = u32w (L.no t)
  ·have hen := ZAa n L.ss.st L.ss.dl false true t 4 ht hn
   simp only [Int.reduceEq, e4, ez, decide_true, decide_false, pick]
   conv => whnf
   (repeat (first | (refine mS ?_; conv => whnf) | rw [natI] | rw [ZAF] | ((first | refine ZAA hP hst ?_ | refine ZAB hP hst ?_ | refine ZAA hP hpl ?_ | refine ZAB hP hpl ?_ | refine ZAA hP hen ?_ | refine ZAB hP hen ?_); (conv => whnf); refine zA ?_; conv => whnf) | (refine arW ?_; conv => whnf)))
   (refine ZAC ?_; conv => whnf); exact zF
  ·have hen := ZAa n L.ss.st L.ss.dl false true t 5 ht hn
   simp only [Int.reduceEq, e4, ez, decide_true, decide_false, pick]
   conv => whnf
   (repeat (first | (refine mS ?_; conv => whnf) | rw [natI] | rw [ZAF] | ((first | refine ZAA hP hst ?_ | refine ZAB hP hst ?_ | refine ZAA hP hpl ?_ | refine ZAB hP hpl ?_ | refine ZAA hP hen ?_ | refine ZAB hP hen ?_); (conv => whnf); refine zA ?_; conv => whnf) | (refine arW ?_; conv => whnf)))
   (refine ZAC ?_; conv => whnf); exact zF
 ·have hen := ZAa n L.ss.st L.ss.dl false true t 0 ht hn
  simp only [e1, e3, e4, decide_false, pick]
  conv => whnf
  (repeat (first | (refine mS ?_; conv => whnf) | rw [natI] | rw [ZAF] | ((first | refine ZAA hP hst ?_ | refine ZAB hP hst ?_ | refine ZAA hP hen ?_ | refine ZAB hP hen ?_); (conv => whnf); refine zA ?_; conv => whnf) | (refine arW ?_; conv => whnf)))
  (refine ZAC ?_; conv => whnf); exact zF
end Go.Proofs.YtlkfolopbehikaaGreat
