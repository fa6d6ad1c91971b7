/- part · part · part · part · part · part · part · part · part · part · part · part · part · part · part · part · part · part · part · part · part · part · part · part · part · part · part · part · part · part · part · part · part -/
import Derived.Test.YtlkfolopbehikaaGreatJ
import Derived.Test.YtlkfolopbehikaaGreatSxPM
import Derived.Test.YtlkfolopbehikaaGreatSxPN
import Derived.Test.YtlkfolopbehikaaGreatSxPQ
import Derived.Test.YtlkfolopbehikaaGreatSxPT
import Derived.Test.YtlkfolopbehikaaGreatSxPR
set_option linter.unusedSimpArgs false
set_option linter.unusedVariables false
set_option maxHeartbeats 8000000
set_option maxRecDepth 8000
namespace Go.Proofs.YtlkfolopbehikaaGreat
open Go Go.Sx
def numE (h : Nat -> Int) : Nat -> List Value := fun i => [.int .i64 (h i)]
def badH (v : Int) : Bool := decide (v < 0) || decide (8 <= v)
def ZFJ (p : Int -> Bool) (h : Nat -> Int) : Nat -> Nat -> Int
 | _, 0 => -1
 | i, m + 1 => if p (h i) = true then (i : Int) else ZFJ p h (i + 1) m
def anyZ (p : Int -> Bool) (h : Nat -> Int) : Nat -> Bool
 | 0 => false
 | m + 1 => anyZ p h m || p (h m)
theorem ZHh (p : Int -> Bool) : ∀ (m : Nat) (g : Nat -> Int), anyZ p g (m + 1) = (p (g 0) || anyZ p (fun j => g (j + 1)) m)
 | 0, g => by simp [anyZ]
 | m + 1, g => by rw [anyZ, ZHh p m g, anyZ, Bool.or_assoc]
theorem ZIS (p : Int -> Bool) (h : Nat -> Int) : ∀ m i, 0 <= ZFJ p h i m ↔ anyZ p (fun j => h (i + j)) m = true
 | 0, i => by simp [ZFJ, anyZ]
 | m + 1, i => by
  rw [ZHh, ZFJ]
  by_cases hp : p (h i) = true
  ·rw [if_pos hp]
   simp [hp]
  ·rw [if_neg hp, ZIS p h m (i + 1)]
   have hp' : p (h i) = false := Bool.eq_false_iff.2 hp
   simp only [Nat.add_zero, hp', Bool.false_or]
   rw [show (fun j => h (i + 1 + j)) = fun j => h (i + (j + 1)) from funext fun j => by congr 1; omega]
theorem ZK0 (f : FuncId) (p : Int -> Bool) (hf : ∀ v, ZAE Tryz.prog f [] 0 [.l (.v (.int .i64 v))] fun x h n => x = ZAR (p v) /\ n = 0 /\ h = []) (h : Nat -> Int) (m : Nat) (hm : m <= 1000000) :
  ZAE Tryz.prog 151 [(0, some (.ro 1 m (numE h)))] 1 [.l (.s 0 1 0 m 0), .l (.c f [])] fun x h' n => x = sInt .i64 (ZFJ p h 0 m) /\ n = 1 /\ h' = [] := by
 refine sE Tryz.func151 ic151_eq [.t 4] fun G hP hA => ?_
 unfold evF ic151
 conv => whnf
 refine ZAg (α := Nat) (ds := []) (N := 1) (fun i => [(8, sInt .i64 (i : Int))]) [] (fun _ => [])
  (fun i => i <= m /\ ZFJ p h 0 m = ZFJ p h i (m - i)) (fun i => m - i) 0 ⟨Nat.zero_le _, rfl⟩ ?_ fun i hi => ?_
 ·exact iA
 ·obtain ⟨hi0, hi1⟩ := hi
  have hni : nadd 0 ((i : Nat) : Int).toNat = i := by simp [ZAO]
  conv => whnf
  refine dsplit (fun h1 => ?_) (fun h1 => ?_)
  ·have hfi := hf (h i)
   have hst : ZFJ p h i (m - i) = if p (h i) = true then (i : Int) else ZFJ p h (i + 1) (m - (i + 1)) := by
    rw [show m - i = (m - (i + 1)) + 1 by omega]; rfl
   conv => whnf
   refine zP ?_
   rw [hni]
   conv => whnf
   refine cA (hfi) ?_
   refine bsplit (fun h2 => ?_) (fun h2 => ?_)
   ·conv => whnf
    refine fI ?_
    rw [hi1, hst, if_pos h2]
   ·conv => whnf
    refine zP ?_
    refine ⟨i + 1, ⟨by omega, ?_⟩, by omega, ?_⟩
    ·rw [hi1, hst, if_neg (by rw [h2]; simp)]
    ·exact iA
  ·obtain rfl : i = m := by omega
   conv => whnf
   refine fI ?_
   rw [hi1, Nat.sub_self]
   rfl
theorem ZBq (f : FuncId) (p : Int -> Bool) (hf : ∀ v, ZAE Tryz.prog f [] 0 [.l (.v (.int .i64 v))] fun x h n => x = ZAR (p v) /\ n = 0 /\ h = []) (h : Nat -> Int) (m : Nat) (hm : m <= 1000000) :
  ZAE Tryz.prog 128 [(0, some (.ro 1 m (numE h)))] 1 [.l (.s 0 1 0 m 0), .l (.c f [])] fun x h' n => x = ZAR (anyZ p h m) /\ n = 1 /\ h' = [] := by
 have hi := ZK0 f p hf h m hm
 have he := ZIS p h m 0
 simp only [Nat.zero_add] at he
 refine sE Tryz.func128 ic128_eq [.t 4] fun G hP hA => ?_
 unfold evF ic128
 conv => whnf
 refine cA (hi) ?_
 refine fB ?_
 rw [Bool.eq_iff_iff, decide_eq_true_iff]
 exact he
def ZFl (st dl : Nat -> Int) : Nat -> List Value := fun i => [.int .i64 (st i), .int .i64 (dl i)]
def ZBN (n : Nat) (st dl : Nat -> Int) (timed probed : Bool) : Heap := [(0, some (.st [.s 1 2 0 n 0, .v (.bool timed), .v (.bool probed)])), (1, some (.ar 2 n (ZFl st dl)))]
def ZBr (n : Nat) (st dl : Nat -> Int) (timed probed : Bool) : Ent := .ob [] (ZAl (ZBN n st dl timed probed) 2)
theorem ZDY (n : Nat) (a b : Bool) (hn : 1 <= n /\ n <= 64) : ZAE Tryz.prog 127 [] 0 [.l (.v (.int .i64 n)), .l (.v (.bool a)), .l (.v (.bool b))] fun x h k =>
  x = .t [.l (.p 0 0 0 0), .l (.v (.int .i64 0))] /\ k = 1 /\ h = [(0, some (ZBr n (fun _ => 0) (fun _ => -1) a b))] := by
 refine sE Tryz.func127 ic127_eq [.t 6, .t 7] fun G hP hA => ?_
 unfold evF ic127
 conv => whnf
 refine dsplit (fun h1 => absurd h1 (by omega)) (fun h1 => ?_)
 conv => whnf
 refine dsplit (fun h2 => absurd h2 (by omega)) (fun h2 => ?_)
 conv => whnf
 refine zP ?_
 refine ZAg (α := Nat) (ds := []) (N := 2) (fun i => [(27, sInt .i64 (i : Int))]) [] (fun i => [(0, some (.ar 2 n (ZFl (fun _ => 0) fun j => if j < i then -1 else 0)))])
  (fun i => i <= n) (fun i => n - i) 0 (Nat.zero_le _) ?_ fun i hi => ?_
 ·exact iA
 ·have hni : nadd 0 ((i : Nat) : Int).toNat = i := by simp [ZAO]
  conv => whnf
  refine dsplit (fun h3 => ?_) (fun h3 => ?_)
  ·replace h3 : (i : Int) < (n : Int) := h3
   conv => whnf
   refine zP ?_
   rw [hni]
   refine ⟨i + 1, by omega, by omega, ?_⟩
   refine iQ ?_
   refine And.intro (And.intro rfl (And.intro rfl fun j hj => ?_)) ZAB
   by_cases hji : j = i
   ·subst hji
    simp only [mrgL, ZA0, if_true, ZAI, setL, ZFl, Nat.lt_succ_self]
   ·have e1 : (j < i + 1) ↔ (j < i) := by omega
    simp only [mrgL, ZA0, if_neg hji, ZAI, setL, ZFl, e1]
  ·replace h3 : ¬ (i : Int) < (n : Int) := h3
   obtain rfl : i = n := by omega
   conv => whnf
   (refine ZAD (H := ZBN i (fun _ => 0) (fun _ => -1) a b) (np := 2) 1 0 (Nat.le_of_ble_eq_true rfl) ?_; conv => whnf); (refine ⟨⟨rfl, by omega, rfl, rfl, ?_, rfl⟩, ?_⟩)
   ·refine ⟨rfl, ⟨rfl, rfl, fun j hj => ?_⟩, trivial⟩
    simp only [ZFl, if_pos hj]
   exact fA
def ZCZ (w : Nat -> Int) : Nat -> List Value := fun i => [.int .u32 (w i)]
def ZOa (th : Int) (m : Nat) (hs ws : Nat -> Int) : Heap := [(0, some (.st [.v (.int .i64 th), .s 1 1 0 m 0, .s 2 1 0 m 0])), (1, some (.ar 1 m (numE hs))), (2, some (.ar 1 m (ZCZ ws)))]
def ZB7 (th : Int) (m : Nat) (hs ws : Nat -> Int) : Ent := .ob [] (ZAl (ZOa th m hs ws) 3)
theorem ZCN (th : Int) (hs ws : Nat -> Int) : ZAE Tryz.prog 63 [] 0 [.l (.v (.int .i64 th))] fun x h n => x = .o (.l (.p 0 0 0 0)) /\ n = 1 /\ h = [(0, some (ZB7 th 0 hs ws))] := by
 refine sE Tryz.func63 ic63_eq [.t 2] fun G hP hA => ?_
 unfold evF ic63
 conv => whnf
 refine ZBH (ZAW.nilc 0 1 1 (numE hs) rfl rfl) (Nat.zero_le _) ?_
 refine ZBH (ZAW.nilc 0 2 1 (ZCZ ws) rfl rfl) (Nat.zero_le _) ?_
 (refine ZAD (H := ZOa th 0 hs ws) (np := 3) 0 0 (Nat.le_of_ble_eq_true rfl) ?_; conv => whnf); (refine zK ?_)
 exact fA
def ZAr (f : Nat -> Int) (m : Nat) (v : Int) : Nat -> Int := fun i => if i < m then f i else v
theorem ZJk (f : Nat -> Int) (m : Nat) (v : Int) (q : Nat) {g : Int -> List Value} : ∀ j, j < m + (q + 1) -> (if j < m + q then g (ZAr f m v j) else g v) = g (ZAr f m v j) := fun j hj => by
 by_cases h : j < m + q
 ·rw [if_pos h]
 ·rw [if_neg h]; unfold ZAr; rw [if_neg (by omega)]
theorem ZIT (th : Int) (m : Nat) (hs ws : Nat -> Int) (n home v : Int) (q : Nat) (hq : (q : Int) = min (max n 0) 4097) (hm : m <= 1000000) :
  ZAE Tryz.prog 136 [(0, some (ZB7 th m hs ws))] 1 [.l (.p 0 0 0 0), .l (.v (.int .i64 n)), .l (.v (.int .i64 home)), .l (.v (.int .u32 v))] fun x h k =>
   x = sInt .i64 (m : Int) /\ k = 1 /\ h = [(0, some (ZB7 th (m + q) (ZAr hs m home) (ZAr ws m v)))] := by
 refine sG (ZAV (ZOa th m hs ws) 3 0 (by omega)) Tryz.func136 ic136_eq [.t 8] fun G hP hA => ?_
 unfold evF ic136
 have h0 : q <= 4097 := by omega
 conv => whnf
 rw [<- hq]
 refine ZAg (α := Nat) (ds := []) (N := 5) (fun i => [(18, sInt .i64 (i : Int))]) []
  (fun i => [(1, none), (2, none), (0, some (.st [.v (.int .i64 th), .s 3 1 0 (m + i) 0, .s 4 1 0 (m + i) 0])), (3, some (.ar 1 (m + i) (numE (ZAr hs m home)))), (4, some (.ar 1 (m + i) (ZCZ (ZAr ws m v))))])
  (fun i => i <= q) (fun i => q - i) 0 (Nat.zero_le _) ?_ fun i hi => ?_
 ·refine iQ ?_
  refine ⟨rfl, ⟨rfl, rfl, fun j hj => ?_⟩, ⟨rfl, rfl, fun j hj => ?_⟩, trivial⟩
  ·simp only [numE, ZAr, if_pos (show j < m from hj)]
  ·simp only [ZCZ, ZAr, if_pos (show j < m from hj)]
 ·conv => whnf
  refine dsplit (fun h1 => ?_) (fun h1 => ?_)
  ·replace h1 : (i : Int) < (q : Int) := h1
   conv => whnf
   refine zP ?_
   refine ⟨i + 1, by omega, by omega, ?_⟩
   refine iQ ?_
   refine ⟨rfl, ⟨rfl, rfl, fun j hj => ?_⟩, ⟨rfl, rfl, fun j hj => ?_⟩, trivial⟩
   ·exact ZJk hs m home i (g := fun v => [.int .i64 v]) j hj
   ·exact ZJk ws m v i (g := fun v => [.int .u32 v]) j hj
  ·replace h1 : ¬ (i : Int) < (q : Int) := h1
   obtain rfl : i = q := by omega
   conv => whnf
   (refine ZAD (H := (ZOa th (m + i) (ZAr hs m home) (ZAr ws m v))) (np := 3) 0 0 (Nat.le_of_ble_eq_true rfl) ?_; conv => whnf); (refine zK ?_)
   exact fA
theorem ZBs (th : Int) (m : Nat) (hs ws : Nat -> Int) (home v : Int) (hm : m <= 1000000) :
  ZAE Tryz.prog 130 [(0, some (ZB7 th m hs ws))] 1 [.l (.p 0 0 0 0), .l (.v (.int .i64 home)), .l (.v (.int .u32 v))] fun x h k =>
   x = sInt .i64 (m : Int) /\ k = 1 /\ h = [(0, some (ZB7 th (m + 1) (ZAr hs m home) (ZAr ws m v)))] := by
 have hr := ZIT th m hs ws 1 home v 1 (by omega) hm
 refine sE Tryz.func130 ic130_eq [.t 6] fun G hP hA => ?_
 unfold evF ic130
 conv => whnf
 refine cA (hr) ?_
 exact fA
theorem ZK1 (v : Int) : ZAE Tryz.prog 134 [] 0 [.l (.v (.int .i64 v))] fun x h n => x = ZAR (badH v) /\ n = 0 /\ h = [] := by
 refine sE Tryz.func134 ic134_eq [.t 2] fun G hP hA => ?_
 unfold evF ic134
 conv => whnf
 (repeat' (first | (refine ZAH ?_; conv => whnf) | (refine dsplit (fun _ => ?_) (fun _ => ?_) <;> conv => whnf)))
 all_goals ((refine fB ?_); unfold badH; rw [Bool.eq_iff_iff]; simp; omega)
def clhE (no ah sp : Nat -> Int) : Nat -> List Value := fun i => [.int .i64 (no i), .int .i64 (ah i), .int .i64 (sp i)]
def ZQ3 (n : Nat) (tail : Int) (st dl no ah sp : Nat -> Int) : Heap := [(0, some (.st [.p 1 0 0 0, .v (.pointer none), .v (.int .i64 tail), .s 2 3 0 n 0])), (1, some (ZBr n st dl false true)), (2, some (.ar 3 n (clhE no ah sp)))]
def ZPv (n : Nat) (tail : Int) (st dl no ah sp : Nat -> Int) : Ent := .ob [] (ZAl (ZQ3 n tail st dl no ah sp) 3)
def ZDZ (f : Nat -> Int) (m : Nat) (h : Nat -> Int) : Nat -> Nat -> Int
 | 0 => f
 | i + 1 => ZAr (ZDZ f m h i) (m + i) (h i)
def ZIU (hs : Nat -> Int) (m : Nat) (h : Nat -> Int) : Nat -> Nat -> Int := ZDZ (ZAr (ZAr hs m (h 0)) (m + 1) (h 0)) (m + 2) h
def ZIV (ws : Nat -> Int) (m : Nat) : Nat -> Nat -> Int := ZDZ (ZAr (ZAr ws m 0) (m + 1) 0) (m + 2) fun _ => 0
theorem ZOb (th : Int) (M : Nat) (hs ws h : Nat -> Int) (m : Nat) (hM : M <= 10000) (hm : 1 <= m /\ m <= 64) (hb : anyZ badH h m = false) :
  ZAE Tryz.prog 107 [(0, some (ZB7 th M hs ws)), (1, some (.ro 1 m (numE h)))] 2 [.l (.p 0 0 0 0), .l (.s 1 1 0 m 0)] fun x h' k =>
   x = .t [.l (.p 2 0 0 0), .l (.v (.int .i64 0))] /\ k = 3 /\ h' = [(0, some (ZB7 th (M + 2 + m) (ZIU hs M h m) (ZIV ws M m))), (2, some (ZPv m M (fun _ => 0) (fun _ => -1) (fun i => i + 1) (fun _ => 0) fun _ => 0))] := by
 have hse := ZDY m false true (by omega)
 have hcf := ZBq 134 badH ZK1 h m (by omega)
 rw [hb] at hcf
 have hw1 := ZBs th M hs ws (h 0) 0 (by omega)
 have hw2 := ZBs th (M + 1) (ZAr hs M (h 0)) (ZAr ws M 0) (h 0) 0 (by omega)
 refine sE Tryz.func107 ic107_eq [.t 4, .t 5] fun G hP hA => ?_
 unfold evF ic107
 conv => whnf
 refine cA (hse) ?_
 refine cA (hcf) ?_
 refine zP ?_
 refine cA (hw1) ?_
 refine zP ?_
 refine cA (hw2) ?_
 refine ZAg (α := Nat) (ds := []) (N := 5) (fun i => [(38, sInt .i64 (i : Int))]) []
  (fun i => [(0, some (ZB7 th (M + 2 + i) (ZIU hs M h i) (ZIV ws M i))), (3, some (.st [.p 2 0 0 0, .v (.pointer none), .v (.int .i64 M), .s 4 3 0 i 0])), (4, some (.ar 3 i (clhE (fun i => i + 1) (fun _ => 0) fun _ => 0)))])
  (fun i => i <= m) (fun i => m - i) 0 (Nat.zero_le _) ?_ fun i hi => ?_
 ·conv => whnf
  refine Imp.trans (ZFW (ZAW.nilc 3 3 3 (clhE (fun i => i + 1) (fun _ => 0) fun _ => 0) rfl rfl)) ?_
  exact iA
 ·have hni : nadd 0 ((i : Nat) : Int).toNat = i := by simp [ZAO]
  have hwi := ZBs th (M + 2 + i) (ZIU hs M h i) (ZIV ws M i) (h i) 0 (by omega)
  conv => whnf
  refine dsplit (fun h1 => ?_) (fun h1 => ?_)
  ·conv => whnf
   refine zP ?_
   rw [hni]
   conv => whnf
   refine cA (hwi) ?_
   refine zP ?_
   refine ⟨i + 1, by omega, by omega, ?_⟩
   refine iQ ?_
   refine ⟨ZAB, rfl, ⟨rfl, rfl, fun j hj => ?_⟩, ZAB⟩
   refine ZCE (f := clhE (fun i => i + 1) (fun _ => 0) fun _ => 0) (i := i) rfl j hj
  ·obtain rfl : i = m := by omega
   conv => whnf
   (refine ZAD (H := (ZQ3 i M (fun _ => 0) (fun _ => -1) (fun i => i + 1) (fun _ => 0) fun _ => 0)) (np := 3) 3 0 (Nat.le_of_ble_eq_true rfl) ?_; conv => whnf); (refine zK ?_)
   exact fA
theorem ZPw : ExtA Tryz.prog 174 Extern.Atomic.storeT := ⟨_, Tryz.func174, by kernel_rfl, by kernel_rfl, by kernel_rfl, by kernel_rfl⟩
def memH (n : Nat) (ws hs : Nat -> Int) : Heap := [(0, some (.st [.s 1 1 0 n 0, .s 2 1 0 n 0])), (1, some (.ar 1 n (ZCZ ws))), (2, some (.ar 1 n (numE hs)))]
def memP (n : Nat) (ws hs : Nat -> Int) : Ent := .ob [] (ZAl (memH n ws hs) 3)
def updF (f : Nat -> Int) (i : Nat) (v : Int) : Nat -> Int := fun j => if j = i then v else f j
theorem updE (f : Nat -> Int) (i : Nat) (v : Int) (j : Nat) : mrgL (j = i) (ZAI (ZCZ f j) 0 [.int .u32 v]) (ZCZ f j) = ZCZ (updF f i v) j := by
 simp only [ZCZ, updF, ZAI, setL, mrgL, ZA0]
 by_cases h : j = i <;> simp [h]
theorem ZK2 (n i : Nat) (ws : Nat -> Int) (v : Int) (hi : i < n) :
  ZAE Tryz.prog 161 [(0, some (.ar 1 n (ZCZ ws)))] 1 [.l (.p 0 1 i 0), .l (.v (.int .u32 v))] fun x h k => x = .t [] /\ k = 1 /\ h = [(0, some (.ar 1 n (ZCZ (updF ws i v))))] := by
 refine sE Tryz.func161 ic161_eq [] fun G hP hA => ?_
 unfold evF ic161
 conv => whnf
 refine ZNL (q := .u32) (hP ▸ ZPw) rfl rfl rfl hi (by omega) ⟨_, rfl⟩ ?_
 conv => whnf
 refine ⟨hi, ?_⟩
 conv => whnf
 refine fQ ?_ ?_
 ·rfl
 ·refine ⟨⟨rfl, rfl, fun j hj => updE ws i v j⟩, trivial⟩
theorem ZGf (f : Nat -> List Value) (m : Nat) (hm : m <= 1000000) :
  ZAE Tryz.prog 159 [(0, some (.ro 1 m f))] 1 [.l (.s 0 1 0 m 0)] fun x h n => x = .o (.l (.s 1 1 0 m 0)) /\ n = 2 /\ h = [(1, some (.ar 1 m f))] := by
 refine ZAE.nil_ret (Q := fun x h n => (x = .o (.l (.s 1 1 0 m 0)) /\ n = 2 /\ h = [(1, some (.ar 1 m f))]) \/ (m = 0 /\ x = .o (.l (.v (.slice none 0 0))) /\ n = 1 /\ h = [])) ?_ ?_
 ·refine sE Tryz.func159 ic159_eq [.t 2] fun G hP hA => ?_
  unfold evF ic159
  conv => whnf
  refine ZKU (el := 3) (by rw [hP]; kernel_rfl) rfl fun b hb => ?_
  conv => whnf
  refine bsplit (fun h => ?_) (fun h => ?_)
  ·conv => whnf
   exact ZCl [0] (.o (.l (.v (.slice none 0 0)))) [] 1 rfl (.inr ⟨hb h, rfl, rfl, rfl⟩) rfl rfl rfl trivial rfl
  ·conv => whnf
   refine zP ?_
   refine ZCl [0, 2] (.o (.l (.s 1 1 0 m 0))) [(1, some (.ar 1 m f))] 2 rfl (.inl ⟨rfl, rfl, rfl⟩) rfl rfl ?_ ?_ rfl
   ·show SV.o (.l (.s 2 1 0 (0 + m) 0)) = _
    rw [Nat.zero_add]; rfl
   ·refine ⟨?_, trivial⟩
    show ZCe _ (.ar 1 (0 + m) _) _
    refine ⟨rfl, Nat.zero_add m, fun i hi => ?_⟩
    simp [ZAO]
 ·intro x h n hx
  rcases hx with ⟨rfl, rfl, rfl⟩ | ⟨rfl, rfl, rfl, rfl⟩
  ·exact .inl ⟨rfl, rfl, rfl⟩
  ·exact .inr ⟨1, f, _, fun ρ h => ZQf ρ h, fun ρ D hD h _ => ZQg ρ D hD h, rfl, rfl, rfl⟩
theorem ZEJ (n i : Nat) (ws hs : Nat -> Int) (hi : i < n) (hn : n <= 1000000) :
  ZAE Tryz.prog 160 (memH n ws hs) 3 [.l (.p 0 0 0 0), .l (.v (.int .i64 i))] fun x h k => x = .o (.l (.p 1 1 i 0)) /\ k = 3 /\ h = memH n ws hs := by
 refine sE Tryz.func160 ic160_eq [.t 4] fun G hP hA => ?_
 unfold evF ic160
 have hni : nadd 0 ((i : Nat) : Int).toNat = i := by simp [ZAO]
 conv => whnf
 (repeat' (first | (refine ZAH ?_; conv => whnf) | (refine dsplit (fun _ => ?_) (fun _ => ?_) <;> conv => whnf)))
 all_goals first | (exfalso; omega) | skip
 refine zP ?_
 rw [hni]
 exact fA
theorem ZGg (n i : Nat) (ws hs : Nat -> Int) (v : Int) (hi : i < n) (hn : n <= 1000000) :
  ZAE Tryz.prog 145 [(0, some (memP n ws hs))] 1 [.l (.p 0 0 0 0), .l (.v (.int .i64 i)), .l (.v (.int .u32 v))] fun x h k => x = .t [] /\ k = 1 /\ h = [(0, some (memP n (updF ws i v) hs))] := by
 have ha := ZEJ n i ws hs hi hn
 have hs' := ZK2 n i ws v hi
 refine sG (ZAV (memH n ws hs) 3 0 (by omega)) Tryz.func145 ic145_eq [] fun G hP hA => ?_
 unfold evF ic145
 conv => whnf
 refine cA (ha) ?_
 refine cA (hs') ?_
 (refine ZAD (H := (memH n (updF ws i v) hs)) (np := 3) 0 0 (Nat.le_of_ble_eq_true rfl) ?_; conv => whnf); (refine zK ?_)
 exact fA
theorem ZGF {p : Int -> Bool} {h : Nat -> Int} : ∀ {m i : Nat}, i < m -> p (h i) = true -> anyZ p h m = true
 | m + 1, i, hi, hp => by
  simp only [anyZ, Bool.or_eq_true]
  by_cases e : i = m
  ·subst e; exact .inr hp
  ·exact .inl (ZGF (by omega) hp)
theorem ZOc (hs : Nat -> Int) (m : Nat) (hm : m <= 4096) (hb : anyZ badH hs m = false) : ZAE Tryz.prog 144 [(0, some (.ro 1 m (numE hs)))] 1 [.l (.s 0 1 0 m 0)] fun x h k =>
  x = .t [.l (.p 1 0 0 0), .l (.v (.int .i64 0))] /\ k = 2 /\ h = [(1, some (memP m (fun _ => 0) hs))] := by
 have hcl := ZGf (numE hs) m (by omega)
 refine sE Tryz.func144 ic144_eq [.t 2, .t 3] fun G hP hA => ?_
 unfold evF ic144
 conv => whnf
 refine dsplit (fun h1 => absurd h1 (by omega)) (fun h1 => ?_)
 conv => whnf
 refine ZAg (α := Nat) (ds := []) (N := 1) (fun i => [(11, sInt .i64 (i : Int))]) [] (fun _ => []) (fun i => i <= m) (fun i => m - i) 0 (Nat.zero_le _) ?_ fun i hi => ?_
 ·exact iA
 ·have hni : nadd 0 ((i : Nat) : Int).toNat = i := by simp [ZAO]
  conv => whnf
  refine dsplit (fun h2 => ?_) (fun h2 => ?_)
  ·have hbi : ¬ badH (hs i) = true := fun h => by rw [ZGF (show i < m by omega) h] at hb; cases hb
   simp only [badH, Bool.or_eq_true, decide_eq_true_eq] at hbi
   conv => whnf
   refine zP ?_
   rw [hni]
   conv => whnf
   (repeat' (first | (refine ZAH ?_; conv => whnf) | (refine dsplit (fun _ => ?_) (fun _ => ?_) <;> conv => whnf)))
   all_goals first | (exfalso; omega) | skip
   refine zP ?_
   refine ⟨i + 1, by omega, by omega, ?_⟩
   exact iA
  ·obtain rfl : i = m := by omega
   conv => whnf
   refine ZKF (by rw [hP]; exact follows) 20 ?_
   conv => whnf
   repeat' (first | (refine And.intro (by omega) ?_; conv => whnf) | (refine And.intro ?_ ?_ <;> (conv => whnf)) | (first | refine cA (hcl) ?_ | fail))
   all_goals (refine ZAD (H := (memH i (fun _ => 0) hs)) (np := 3) 3 0 (Nat.le_of_ble_eq_true rfl) ?_; conv => whnf); (refine zK ?_)
   all_goals exact fA
def ZOd (c : Nat -> Int) : Nat -> List Value := fun i => [.int .u64 (c i)]
def ZFK (a b : Nat -> Int) : Nat -> List Value := fun i => [.int .i64 (a i), .int .i64 (b i)]
def ZEW (nw nt : Nat) (cp ms : Nat -> Int) : Heap := [(0, some (.st [.s 1 1 0 nw 0, .s 2 1 0 nt 0])), (1, some (.ar 1 nw (ZOd cp))), (2, some (.ar 1 nt (numE ms)))]
def ZHi (nw nt : Nat) (cp ms : Nat -> Int) : Ent := .ob [] (ZAl (ZEW nw nt cp ms) 3)
theorem ZK3 (nt nw : Nat) (h1 : 1 <= nt /\ nt <= 64) (h2 : nw <= 4096) : ZAE Tryz.prog 146 [] 0 [.l (.v (.int .i64 nt)), .l (.v (.int .i64 nw))] fun x h k =>
  x = .t [.l (.p 0 0 0 0), .l (.v (.int .i64 0))] /\ k = 1 /\ h = [(0, some (ZHi nw nt (fun _ => 0) fun _ => 0))] := by
 refine sE Tryz.func146 ic146_eq [.t 4, .t 5] fun G hP hA => ?_
 unfold evF ic146
 conv => whnf
 (repeat' (first | (refine ZAH ?_; conv => whnf) | (refine dsplit (fun _ => ?_) (fun _ => ?_) <;> conv => whnf)))
 all_goals first | (exfalso; omega) | skip
 refine ZKF (by rw [hP]; exact follows) 20 ?_
 conv => whnf
 repeat' (first | (refine And.intro (by omega) ?_; conv => whnf) | (refine And.intro ?_ ?_ <;> (conv => whnf)))
 all_goals (refine ZAD (H := (ZEW nw nt (fun _ => 0) (fun _ => 0))) (np := 3) 2 0 (Nat.le_of_ble_eq_true rfl) ?_; conv => whnf); (refine zK ?_)
 all_goals exact fA
def ZBk (nt nw : Nat) (ws hs cp ms ac wr : Nat -> Int) : Heap := [(0, some (.st [.p 1 0 0 0, .p 2 0 0 0, .s 3 2 0 nt 0])), (1, some (memP nw ws hs)), (2, some (ZHi nw nt cp ms)), (3, some (.ar 2 nt (ZFK ac wr)))]
def ZBy (nt nw : Nat) (ws hs cp ms ac wr : Nat -> Int) : Ent := .ob [] (ZAl (ZBk nt nw ws hs cp ms ac wr) 4)
def cutF (f : Nat -> Int) (i : Nat) : Nat -> Int := fun j => if j < i then f j else 0
theorem ZPx (f : Nat -> Int) (i : Nat) : updF (cutF f i) i (f i) = cutF f (i + 1) := by
 funext j
 unfold updF cutF
 by_cases h : j = i
 ·subst h; simp
 ·rw [if_neg h]
  by_cases h2 : j < i
  ·rw [if_pos h2, if_pos (by omega)]
  ·rw [if_neg h2, if_neg (by omega)]
theorem ZMu (nt m : Nat) (hs ws : Nat -> Int) (h1 : 1 <= nt /\ nt <= 64) (hm : m <= 4096) (hb : anyZ badH hs m = false) :
  ZAE Tryz.prog 112 [(0, some (.ro 1 m (numE hs))), (1, some (.ro 1 m (ZCZ ws)))] 2 [.l (.v (.int .i64 nt)), .l (.s 0 1 0 m 0), .l (.s 1 1 0 m 0)] fun x h k =>
   x = .t [.l (.p 2 0 0 0), .l (.v (.int .i64 0))] /\ k = 3 /\ h = [(2, some (ZBy nt m (cutF ws m) hs (fun _ => 0) (fun _ => 0) (fun _ => 0) fun _ => 0))] := by
 have hmn := ZOc hs m hm hb
 rw [show (fun _ => 0 : Nat -> Int) = cutF ws 0 from funext fun j => by simp [cutF]] at hmn
 have hcn := ZK3 nt m h1 hm
 refine sE Tryz.func112 ic112_eq [.t 6, .t 7] fun G hP hA => ?_
 unfold evF ic112
 conv => whnf
 (repeat' (first | (refine ZAH ?_; conv => whnf) | (refine dsplit (fun _ => ?_) (fun _ => ?_) <;> conv => whnf)))
 all_goals first | (exfalso; omega) | skip
 refine cA (hmn) ?_
 refine ZAg (α := Nat) (ds := []) (N := 3) (fun i => [(37, sInt .i64 (i : Int))]) [] (fun i => [(2, some (memP m (cutF ws i) hs))]) (fun i => i <= m) (fun i => m - i) 0 (Nat.zero_le _) ?_ fun i hi => ?_
 ·exact iA
 ·have hni : nadd 0 ((i : Nat) : Int).toNat = i := by simp [ZAO]
  conv => whnf
  refine dsplit (fun h2 => ?_) (fun h2 => ?_)
  ·have hst := ZGg m i (cutF ws i) hs (ws i) (by omega) (by omega)
   conv => whnf
   refine zP ?_
   rw [hni]
   conv => whnf
   refine cA (hst) ?_
   refine zP ?_
   refine ⟨i + 1, by omega, by omega, ?_⟩
   rw [ZPx]
   exact iA
  ·obtain rfl : i = m := by omega
   conv => whnf
   refine cA (hcn) ?_
   refine zP ?_
   (refine ZAD (H := (ZBk nt i (cutF ws i) hs (fun _ => 0) (fun _ => 0) (fun _ => 0) fun _ => 0)) (np := 4) 5 0 (Nat.le_of_ble_eq_true rfl) ?_; conv => whnf); (refine zK ?_)
   exact fA
theorem ZCp (nt m : Nat) (hs ws : Nat -> Int) (h1 : 1 <= nt /\ nt <= 64) (hm : m <= 4096) (hb : anyZ badH hs m = false) :
  ZAE Tryz.prog 65 [(0, some (ZB7 nt m hs ws))] 1 [.l (.p 0 0 0 0)] fun x h k =>
   x = .t [.l (.p 1 0 0 0), .l (.v (.int .i64 0))] /\ k = 2 /\ h = [(1, some (ZBy nt m (cutF ws m) hs (fun _ => 0) (fun _ => 0) (fun _ => 0) fun _ => 0))] := by
 have hpn := ZMu nt m hs ws h1 hm hb
 refine sG (ZAV (ZOa nt m hs ws) 3 0 (by omega)) Tryz.func65 ic65_eq [.t 2, .t 3] fun G hP hA => ?_
 unfold evF ic65
 conv => whnf
 refine zD ?_
 refine cA (hpn) ?_
 refine zO ?_
 conv => whnf
 exact fA
def ZDL (n : Nat) (tail : Int) (st dl no ah sp : Nat -> Int) : Heap := [(0, some (.st [.p 2 0 0 0, .p 1 0 0 0, .v (.int .i64 tail), .s 3 3 0 n 0])), (2, some (ZBr n st dl false true)), (3, some (.ar 3 n (clhE no ah sp)))]
theorem ZK4 (n : Nat) (tail : Int) (st dl no ah sp : Nat -> Int) :
  ZAE Tryz.prog 236 [(0, some (ZPv n tail st dl no ah sp))] 2 [.l (.p 0 0 0 0), .l (.p 1 0 0 0)] fun x h k =>
   x = .t [] /\ k = 2 /\ h = [(0, some (ZFX (ZDL n tail st dl no ah sp) 4 1))] := by
 refine sG (ZAS 0 (h := [(0, some (ZPv n tail st dl no ah sp))]) (n := 2) (ks := []) (H := ZQ3 n tail st dl no ah sp) (np := 3) rfl (by decide) rfl rfl rfl) Tryz.func236 ic236_eq [] fun G hP hA => ?_
 unfold evF ic236
 conv => whnf
 (refine ZAD (H := (ZDL n tail st dl no ah sp)) (np := 4) 0 1 (Nat.le_of_ble_eq_true rfl) ?_; conv => whnf); (refine zK ?_)
 exact fA
theorem ZMv (v : Value) (args : Array Value) (w : World) : (callMethod (.iface 227 v) "Use" args).run Tryz.prog w = .ok (.enter 236 (#[v] ++ args)) w := by kernel_rfl
def ZCR (kind : Int) (k m : Nat) (start slots pool budget glob loc : Int) : AV := .a [.v (.int .i64 kind), .s k 1 0 m 0, .v (.int .u32 start), .v (.int .i64 slots), .v (.int .i64 pool), .v (.int .i64 budget), .v (.int .i64 glob), .v (.int .i64 loc)]
theorem ZBE {p : Int -> Bool} {f : Nat -> Int} : ∀ {n : Nat}, anyZ p f n = false ↔ ∀ i, i < n -> p (f i) = false
 | 0 => ⟨fun _ i hi => absurd hi (Nat.not_lt_zero i), fun _ => rfl⟩
 | n + 1 => by
  rw [anyZ, Bool.or_eq_false_iff, ZBE]
  constructor
  ·rintro ⟨h1, h2⟩ i hi
   rcases Nat.lt_succ_iff_lt_or_eq.1 hi with h | rfl
   ·exact h1 i h
   ·exact h2
  ·exact fun h => ⟨fun i hi => h i (by omega), h n (by omega)⟩
theorem ZCa {Q : Int -> Prop} {f : Nat -> Int} {m : Nat} {v : Int} (h : ∀ j, j < m -> Q (f j)) (hv : Q v) (j : Nat) : Q (ZAr f m v j) := by
 unfold ZAr
 by_cases hj : j < m
 ·rw [if_pos hj]; exact h j hj
 ·rw [if_neg hj]; exact hv
theorem ZIW {Q : Int -> Prop} {f h : Nat -> Int} {m : Nat} (hf : ∀ j, j < m -> Q (f j)) : ∀ i, (∀ j, j < i -> Q (h j)) -> ∀ j, j < m + i -> Q (ZDZ f m h i j)
 | 0, _, j, hj => hf j hj
 | i + 1, hh, j, _ => ZCa (ZIW hf i fun j hj => hh j (by omega)) (hh i (by omega)) j
theorem ZMw {hs h : Nat -> Int} {m : Nat} (hm : 1 <= m) (hb : anyZ badH h m = false) : anyZ badH (ZIU hs 0 h m) (2 + m) = false := by
 have h0 := ZBE.1 hb
 refine ZBE.2 (ZIW (Q := fun x => badH x = false) (m := 2) (fun j hj => ?_) m h0)
 exact ZCa (Q := fun x => badH x = false) (fun j hj => ZCa (Q := fun x => badH x = false) (fun j hj => absurd hj (Nat.not_lt_zero _)) (h0 0 hm) j) (h0 0 hm) j
theorem ZQ4 (th : Int) (hs ws h : Nat -> Int) (m : Nat) (start slots pool budget glob loc : Int) (hm : 1 <= m /\ m <= 64) (hb : anyZ badH h m = false) :
  ZAE Tryz.prog 64 [(0, some (ZB7 th 0 hs ws)), (1, some (.ro 1 m (numE h)))] 2 [.l (.p 0 0 0 0), ZCR 3 1 m start slots pool budget glob loc] fun x h' k =>
   x = .t [.l (.i 227 2), .l (.v (.int .i64 0))] /\ k = 3 /\ h' = [(0, some (ZB7 th (2 + m) (ZIU hs 0 h m) (ZIV ws 0 m))), (2, some (ZPv m 0 (fun _ => 0) (fun _ => -1) (fun i => i + 1) (fun _ => 0) fun _ => 0))] := by
 have hcn := ZOb th 0 hs ws h m (by omega) hm hb
 rw [show 0 + 2 + m = 2 + m by omega] at hcn
 refine sE Tryz.func64 ic64_eq [.t 4, .t 5] fun G hP hA => ?_
 unfold evF ic64
 conv => whnf
 refine cA (hcn) ?_
 exact fA
theorem ZJl (h : Nat -> Int) (m : Nat) (start slots pool budget glob loc : Int) (hm : 1 <= m /\ m <= 64) (hb : anyZ badH h m = false) :
  ZAE Tryz.prog 33 [(0, some (.ro 1 m (numE h)))] 1 [ZCR 3 0 m start slots pool budget glob loc] fun x h' k =>
   x = .t [.l (.i 227 1), .l (.p 2 0 0 0), .l (.v (.int .i64 0))] /\ k = 3 /\ h' = [(1, some (.ob [2] (ZAl (ZDL m 0 (fun _ => 0) (fun _ => -1) (fun i => i + 1) (fun _ => 0) fun _ => 0) 4))),
    (2, some (ZBy m (2 + m) (cutF (ZIV (fun _ => 0) 0 m) (2 + m)) (ZIU (fun _ => 0) 0 h m) (fun _ => 0) (fun _ => 0) (fun _ => 0) fun _ => 0))] := by
 have hpn := ZCN (m : Int) (fun _ => 0) fun _ => 0
 have hly := ZQ4 (m : Int) (fun _ => 0) (fun _ => 0) h m start slots pool budget glob loc hm hb
 have hpp := ZCp m (2 + m) (ZIU (fun _ => 0) 0 h m) (ZIV (fun _ => 0) 0 m) hm (by omega) (ZMw hm.1 hb)
 have hu := ZK4 m 0 (fun _ => 0) (fun _ => -1) (fun i => i + 1) (fun _ => 0) fun _ => 0
 refine sE Tryz.func33 ic33_eq [.t 2, .t 3, .t 4] fun G hP hA => ?_
 unfold evF ic33
 conv => whnf
 refine zP ?_
 refine cA (hpn) ?_
 refine cA (hly) ?_
 refine cA (hpp) ?_
 refine ZGy hP ZMv ?_
 refine cA (hu) ?_
 exact fA
theorem ZK5 (v : Int) : ZAE Tryz.prog 135 [] 0 [.l (.v (.int .i64 v))] fun x h n => x = ZAR (badH v) /\ n = 0 /\ h = [] := by
 refine sE Tryz.func135 ic135_eq [.t 2] fun G hP hA => ?_
 unfold evF ic135
 conv => whnf
 (repeat' (first | (refine ZAH ?_; conv => whnf) | (refine dsplit (fun _ => ?_) (fun _ => ?_) <;> conv => whnf)))
 all_goals ((refine fB ?_); unfold badH; rw [Bool.eq_iff_iff]; simp; omega)
def mcsE (sp ot : Nat -> Int) : Nat -> List Value := fun i => [.int .i64 (sp i), .int .u32 (ot i)]
def ZQ5 (n : Nat) (tail : Int) (st dl sp ot : Nat -> Int) : Heap := [(0, some (.st [.p 1 0 0 0, .v (.pointer none), .v (.int .i64 tail), .s 2 2 0 n 0])), (1, some (ZBr n st dl false true)), (2, some (.ar 2 n (mcsE sp ot)))]
def ZPy (n : Nat) (tail : Int) (st dl sp ot : Nat -> Int) : Ent := .ob [] (ZAl (ZQ5 n tail st dl sp ot) 3)
def ZDM (n : Nat) (tail : Int) (st dl sp ot : Nat -> Int) : Heap := [(0, some (.st [.p 2 0 0 0, .p 1 0 0 0, .v (.int .i64 tail), .s 3 2 0 n 0])), (2, some (ZBr n st dl false true)), (3, some (.ar 2 n (mcsE sp ot)))]
def ZK6 (q : Nat) (f : Nat -> Int) (m : Nat) (h : Nat -> Int) : Nat -> Nat -> Int
 | 0 => f
 | i + 1 => ZAr (ZK6 q f m h i) (m + q * i) (h i)
theorem ZIX {Q : Int -> Prop} {f h : Nat -> Int} {q m : Nat} (hf : ∀ j, j < m -> Q (f j)) : ∀ i, (∀ j, j < i -> Q (h j)) -> ∀ j, j < m + q * i -> Q (ZK6 q f m h i j)
 | 0, _, j, hj => hf j (by omega)
 | i + 1, hh, j, _ => ZCa (ZIX hf i fun j hj => hh j (by omega)) (hh i (by omega)) j
def ZIY (hs : Nat -> Int) (m : Nat) (h : Nat -> Int) : Nat -> Nat -> Int := ZK6 2 (ZAr hs m (h 0)) (m + 1) h
def ZIZ (ws : Nat -> Int) (m : Nat) : Nat -> Nat -> Int := ZK6 2 (ZAr ws m 0) (m + 1) fun _ => 0
theorem ZOe (th : Int) (M : Nat) (hs ws h : Nat -> Int) (m : Nat) (hM : M <= 10000) (hm : 1 <= m /\ m <= 64) (hb : anyZ badH h m = false) :
  ZAE Tryz.prog 108 [(0, some (ZB7 th M hs ws)), (1, some (.ro 1 m (numE h)))] 2 [.l (.p 0 0 0 0), .l (.s 1 1 0 m 0)] fun x h' k =>
   x = .t [.l (.p 2 0 0 0), .l (.v (.int .i64 0))] /\ k = 3 /\ h' = [(0, some (ZB7 th (M + 1 + 2 * m) (ZIY hs M h m) (ZIZ ws M m))), (2, some (ZPy m M (fun _ => 0) (fun _ => -1) (fun _ => 0) fun _ => 0))] := by
 have hse := ZDY m false true (by omega)
 have hcf := ZBq 135 badH ZK5 h m (by omega)
 rw [hb] at hcf
 have hw1 := ZBs th M hs ws (h 0) 0 (by omega)
 refine sE Tryz.func108 ic108_eq [.t 4, .t 5] fun G hP hA => ?_
 unfold evF ic108
 conv => whnf
 refine cA (hse) ?_
 refine cA (hcf) ?_
 (refine ZCk (by rw [hP]; exact follows) 60 (by kernel_rfl) ?_; conv => whnf)
 repeat' (first | (refine And.intro (by first | omega | (simp [ZAO]; omega)) ?_; conv => whnf) | (refine And.intro ?_ ?_ <;> (conv => whnf)) | ((first | refine cA (hw1) ?_ | fail)))
 all_goals
  refine ZAg (α := Nat) (ds := []) (N := 5) (fun i => [(36, sInt .i64 (i : Int))]) []
   (fun i => [(0, some (ZB7 th (M + 1 + 2 * i) (ZIY hs M h i) (ZIZ ws M i)))])
   (fun i => i <= m) (fun i => m - i) 0 (Nat.zero_le _) ?_ fun i hi => ?_
  ·exact iA
  ·have hwi := ZIT th (M + 1 + 2 * i) (ZIY hs M h i) (ZIZ ws M i) 2 (h i) 0 2 (by omega) (by omega)
   conv => whnf
   refine dsplit (fun h1 => ?_) (fun h1 => ?_)
   ·conv => whnf
    refine zP ?_
    refine cA (hwi) ?_
    refine zP ?_
    refine ⟨i + 1, by omega, by omega, ?_⟩
    exact iA
   ·obtain rfl : i = m := by omega
    conv => whnf
    (refine ZAD (H := (ZQ5 i M (fun _ => 0) (fun _ => -1) (fun _ => 0) fun _ => 0)) (np := 3) 4 0 (Nat.le_of_ble_eq_true rfl) ?_; conv => whnf); (refine zK ?_)
    exact fA
theorem ZJm (v : Int) : ZAE Tryz.prog 129 [] 0 [.l (.v (.int .i64 v))] fun x h n => x = ZAR (badH v) /\ n = 0 /\ h = [] := by
 refine sE Tryz.func129 ic129_eq [.t 2] fun G hP hA => ?_
 unfold evF ic129
 conv => whnf
 (repeat' (first | (refine ZAH ?_; conv => whnf) | (refine dsplit (fun _ => ?_) (fun _ => ?_) <;> conv => whnf)))
 all_goals ((refine fB ?_); unfold badH; rw [Bool.eq_iff_iff]; simp; omega)
def ZIa (b : Nat -> Bool) : Nat -> List Value := fun i => [.bool (b i)]
def ZOf (n : Nat) (nx ow : Int) (st dl nu : Nat -> Int) (dr : Nat -> Bool) : Heap := [(0, some (.st [.p 1 0 0 0, .v (.pointer none), .v (.int .i64 nx), .v (.int .i64 ow), .s 2 1 0 n 0, .s 3 1 0 n 0])), (1, some (ZBr n st dl false true)), (2, some (.ar 1 n (ZCZ nu))), (3, some (.ar 1 n (ZIa dr)))]
def ZL3 (n : Nat) (nx ow : Int) (st dl nu : Nat -> Int) (dr : Nat -> Bool) : Ent := .ob [] (ZAl (ZOf n nx ow st dl nu dr) 4)
def ZBt (n : Nat) (nx ow : Int) (st dl nu : Nat -> Int) (dr : Nat -> Bool) : Heap := [(0, some (.st [.p 2 0 0 0, .p 1 0 0 0, .v (.int .i64 nx), .v (.int .i64 ow), .s 3 1 0 n 0, .s 4 1 0 n 0])), (2, some (ZBr n st dl false true)), (3, some (.ar 1 n (ZCZ nu))), (4, some (.ar 1 n (ZIa dr)))]
def ZGh (hs : Nat -> Int) (m : Nat) (h : Nat -> Int) : Nat -> Int := ZAr (ZAr hs m (h 0)) (m + 1) (h 0)
def ZEX (ws : Nat -> Int) (m : Nat) (u : Int) : Nat -> Int := ZAr (ZAr ws m u) (m + 1) u
theorem ZMx (th : Int) (M : Nat) (hs ws h : Nat -> Int) (m : Nat) (u : Int) (hM : M <= 10000) (hm : 1 <= m /\ m <= 64) (hb : anyZ badH h m = false) :
  ZAE Tryz.prog 105 [(0, some (ZB7 th M hs ws)), (1, some (.ro 1 m (numE h)))] 2 [.l (.p 0 0 0 0), .l (.s 1 1 0 m 0), .l (.v (.int .u32 u))] fun x h' k =>
   x = .t [.l (.p 2 0 0 0), .l (.v (.int .i64 0))] /\ k = 3 /\ h' = [(0, some (ZB7 th (M + 2) (ZGh hs M h) (ZEX ws M u))), (2, some (ZL3 m M (M + 1) (fun _ => 0) (fun _ => -1) (fun _ => 0) fun _ => false))] := by
 have hse := ZDY m false true (by omega)
 have hcf := ZBq 129 badH ZJm h m (by omega)
 rw [hb] at hcf
 have hw1 := ZBs th M hs ws (h 0) u (by omega)
 have hw2 := ZBs th (M + 1) (ZAr hs M (h 0)) (ZAr ws M u) (h 0) u (by omega)
 refine sE Tryz.func105 ic105_eq [.t 6, .t 7] fun G hP hA => ?_
 unfold evF ic105
 conv => whnf
 refine cA (hse) ?_
 refine cA (hcf) ?_
 (refine ZCk (by rw [hP]; exact follows) 60 (by kernel_rfl) ?_; conv => whnf)
 repeat' (first | (refine And.intro (by first | omega | (simp [ZAO]; omega)) ?_; conv => whnf) | (refine And.intro ?_ ?_ <;> (conv => whnf)))
 all_goals
  (refine ZCk (by rw [hP]; exact follows) 60 (by kernel_rfl) ?_; conv => whnf)
  repeat' (first | (refine And.intro (by first | omega | (simp [ZAO]; omega)) ?_; conv => whnf) | (refine And.intro ?_ ?_ <;> (conv => whnf)))
 all_goals refine cA (hw1) ?_
 repeat' (first | (refine And.intro (by first | omega | (simp [ZAO]; omega)) ?_; conv => whnf) | (refine And.intro ?_ ?_ <;> (conv => whnf)))
 all_goals refine cA (hw2) ?_
 repeat' (first | (refine And.intro (by first | omega | (simp [ZAO]; omega)) ?_; conv => whnf) | (refine And.intro ?_ ?_ <;> (conv => whnf)))
 all_goals ((refine ZAD (H := (ZOf m M ((M + 1 : Nat) : Int) (fun _ => 0) (fun _ => -1) (fun _ => 0) fun _ => false)) (np := 4) 5 0 (Nat.le_of_ble_eq_true rfl) ?_; conv => whnf); (refine zK ?_); exact fA)
theorem ZJn (n : Nat) (nx ow : Int) (st dl nu : Nat -> Int) (dr : Nat -> Bool) :
  ZAE Tryz.prog 215 [(0, some (ZL3 n nx ow st dl nu dr))] 2 [.l (.p 0 0 0 0), .l (.p 1 0 0 0)] fun x h k =>
   x = .t [] /\ k = 2 /\ h = [(0, some (ZFX (ZBt n nx ow st dl nu dr) 5 1))] := by
 refine sG (ZAS 0 (h := [(0, some (ZL3 n nx ow st dl nu dr))]) (n := 2) (ks := []) (H := ZOf n nx ow st dl nu dr) (np := 4) rfl (by decide) rfl rfl rfl) Tryz.func215 ic215_eq [] fun G hP hA => ?_
 unfold evF ic215
 conv => whnf
 (refine ZAD (H := (ZBt n nx ow st dl nu dr)) (np := 5) 0 1 (Nat.le_of_ble_eq_true rfl) ?_; conv => whnf); (refine zK ?_)
 exact fA
theorem ZK7 (v : Value) (args : Array Value) (w : World) : (callMethod (.iface 221 v) "Use" args).run Tryz.prog w = .ok (.enter 215 (#[v] ++ args)) w := by kernel_rfl
theorem ZK8 (n : Nat) (tail : Int) (st dl sp ot : Nat -> Int) :
  ZAE Tryz.prog 244 [(0, some (ZPy n tail st dl sp ot))] 2 [.l (.p 0 0 0 0), .l (.p 1 0 0 0)] fun x h k =>
   x = .t [] /\ k = 2 /\ h = [(0, some (ZFX (ZDM n tail st dl sp ot) 4 1))] := by
 refine sG (ZAS 0 (h := [(0, some (ZPy n tail st dl sp ot))]) (n := 2) (ks := []) (H := ZQ5 n tail st dl sp ot) (np := 3) rfl (by decide) rfl rfl rfl) Tryz.func244 ic244_eq [] fun G hP hA => ?_
 unfold evF ic244
 conv => whnf
 (refine ZAD (H := (ZDM n tail st dl sp ot)) (np := 4) 0 1 (Nat.le_of_ble_eq_true rfl) ?_; conv => whnf); (refine zK ?_)
 exact fA
theorem ZMy (v : Value) (args : Array Value) (w : World) : (callMethod (.iface 230 v) "Use" args).run Tryz.prog w = .ok (.enter 244 (#[v] ++ args)) w := by kernel_rfl
theorem ZQ6 (th : Int) (hs ws h : Nat -> Int) (m : Nat) (start slots pool budget glob loc : Int) (hm : 1 <= m /\ m <= 64) (hb : anyZ badH h m = false) :
  ZAE Tryz.prog 64 [(0, some (ZB7 th 0 hs ws)), (1, some (.ro 1 m (numE h)))] 2 [.l (.p 0 0 0 0), ZCR 1 1 m start slots pool budget glob loc] fun x h' k =>
   x = .t [.l (.i 221 2), .l (.v (.int .i64 0))] /\ k = 3 /\ h' = [(0, some (ZB7 th (2) (ZGh hs 0 h) (ZEX ws 0 start))), (2, some (ZL3 m 0 1 (fun _ => 0) (fun _ => -1) (fun _ => 0) fun _ => false))] := by
 have hcn := ZMx th 0 hs ws h m start (by omega) hm hb
 rw [show 0 + 2 = 2 by omega] at hcn
 refine sE Tryz.func64 ic64_eq [.t 4, .t 5] fun G hP hA => ?_
 unfold evF ic64
 conv => whnf
 refine cA (hcn) ?_
 exact fA
theorem ZK9 {hs h : Nat -> Int} {m : Nat} (hm : 1 <= m) (hb : anyZ badH h m = false) : anyZ badH (ZGh hs 0 h) 2 = false := by
 have h0 := ZBE.1 hb
 exact ZBE.2 fun j hj => ZCa (Q := fun x => badH x = false) (fun j hj => ZCa (Q := fun x => badH x = false) (fun j hj => absurd hj (Nat.not_lt_zero _)) (h0 0 hm) j) (h0 0 hm) j
theorem ZJo (h : Nat -> Int) (m : Nat) (start slots pool budget glob loc : Int) (hm : 1 <= m /\ m <= 64) (hb : anyZ badH h m = false) :
  ZAE Tryz.prog 33 [(0, some (.ro 1 m (numE h)))] 1 [ZCR 1 0 m start slots pool budget glob loc] fun x h' k =>
   x = .t [.l (.i 221 1), .l (.p 2 0 0 0), .l (.v (.int .i64 0))] /\ k = 3 /\ h' = [(1, some (.ob [2] (ZAl (ZBt m 0 1 (fun _ => 0) (fun _ => -1) (fun _ => 0) fun _ => false) 5))),
    (2, some (ZBy m (2) (cutF (ZEX (fun _ => 0) 0 start) (2)) (ZGh (fun _ => 0) 0 h) (fun _ => 0) (fun _ => 0) (fun _ => 0) fun _ => 0))] := by
 have hpn := ZCN (m : Int) (fun _ => 0) fun _ => 0
 have hly := ZQ6 (m : Int) (fun _ => 0) (fun _ => 0) h m start slots pool budget glob loc hm hb
 have hpp := ZCp m (2) (ZGh (fun _ => 0) 0 h) (ZEX (fun _ => 0) 0 start) hm (by omega) (ZK9 hm.1 hb)
 have hu := ZJn m 0 1 (fun _ => 0) (fun _ => -1) (fun _ => 0) fun _ => false
 refine sE Tryz.func33 ic33_eq [.t 2, .t 3, .t 4] fun G hP hA => ?_
 unfold evF ic33
 conv => whnf
 refine zP ?_
 refine cA (hpn) ?_
 refine cA (hly) ?_
 refine cA (hpp) ?_
 refine ZGy hP ZK7 ?_
 refine cA (hu) ?_
 exact fA
theorem ZQ7 (th : Int) (hs ws h : Nat -> Int) (m : Nat) (start slots pool budget glob loc : Int) (hm : 1 <= m /\ m <= 64) (hb : anyZ badH h m = false) :
  ZAE Tryz.prog 64 [(0, some (ZB7 th 0 hs ws)), (1, some (.ro 1 m (numE h)))] 2 [.l (.p 0 0 0 0), ZCR 4 1 m start slots pool budget glob loc] fun x h' k =>
   x = .t [.l (.i 230 2), .l (.v (.int .i64 0))] /\ k = 3 /\ h' = [(0, some (ZB7 th (1 + 2 * m) (ZIY hs 0 h m) (ZIZ ws 0 m))), (2, some (ZPy m 0 (fun _ => 0) (fun _ => -1) (fun _ => 0) fun _ => 0))] := by
 have hcn := ZOe th 0 hs ws h m (by omega) hm hb
 rw [show 0 + 1 + 2 * m = 1 + 2 * m by omega] at hcn
 refine sE Tryz.func64 ic64_eq [.t 4, .t 5] fun G hP hA => ?_
 unfold evF ic64
 conv => whnf
 refine cA (hcn) ?_
 exact fA
theorem ZMz {hs h : Nat -> Int} {m : Nat} (hm : 1 <= m) (hb : anyZ badH h m = false) : anyZ badH (ZIY hs 0 h m) (1 + 2 * m) = false := by
 have h0 := ZBE.1 hb
 exact ZBE.2 (ZIX (Q := fun x => badH x = false) (q := 2) (m := 1) (fun j hj => ZCa (Q := fun x => badH x = false) (fun j hj => absurd hj (Nat.not_lt_zero _)) (h0 0 hm) j) m h0)
theorem ZJp (h : Nat -> Int) (m : Nat) (start slots pool budget glob loc : Int) (hm : 1 <= m /\ m <= 64) (hb : anyZ badH h m = false) :
  ZAE Tryz.prog 33 [(0, some (.ro 1 m (numE h)))] 1 [ZCR 4 0 m start slots pool budget glob loc] fun x h' k =>
   x = .t [.l (.i 230 1), .l (.p 2 0 0 0), .l (.v (.int .i64 0))] /\ k = 3 /\ h' = [(1, some (.ob [2] (ZAl (ZDM m 0 (fun _ => 0) (fun _ => -1) (fun _ => 0) fun _ => 0) 4))),
    (2, some (ZBy m (1 + 2 * m) (cutF (ZIZ (fun _ => 0) 0 m) (1 + 2 * m)) (ZIY (fun _ => 0) 0 h m) (fun _ => 0) (fun _ => 0) (fun _ => 0) fun _ => 0))] := by
 have hpn := ZCN (m : Int) (fun _ => 0) fun _ => 0
 have hly := ZQ7 (m : Int) (fun _ => 0) (fun _ => 0) h m start slots pool budget glob loc hm hb
 have hpp := ZCp m (1 + 2 * m) (ZIY (fun _ => 0) 0 h m) (ZIZ (fun _ => 0) 0 m) hm (by omega) (ZMz hm.1 hb)
 have hu := ZK8 m 0 (fun _ => 0) (fun _ => -1) (fun _ => 0) fun _ => 0
 refine sE Tryz.func33 ic33_eq [.t 2, .t 3, .t 4] fun G hP hA => ?_
 unfold evF ic33
 conv => whnf
 refine zP ?_
 refine cA (hpn) ?_
 refine cA (hly) ?_
 refine cA (hpp) ?_
 refine ZGy hP ZMy ?_
 refine cA (hu) ?_
 exact fA
def ZCq (cl no ah la wo sp : Nat -> Int) : Nat -> List Value := fun i => [.int .i64 (cl i), .int .i64 (no i), .int .i64 (ah i), .int .i64 (la i), .int .u32 (wo i), .int .i64 (sp i)]
def ZCU (n : Nat) (tail : Int) (st dl cl no ah la wo sp : Nat -> Int) : Heap := [(0, some (.st [.p 2 0 0 0, .p 1 0 0 0, .v (.int .i64 tail), .s 3 6 0 n 0])), (2, some (ZBr n st dl false false)), (3, some (.ar 6 n (ZCq cl no ah la wo sp)))]

theorem ZM0 (v : Int) (h : Nat -> Int) (m : Nat) (hm : m <= 1000000) :
  ZAE Tryz.prog 150 [(0, some (.ro 1 m (numE h)))] 1 [.l (.s 0 1 0 m 0), .l (.v (.int .i64 v))] fun x h' n => x = sInt .i64 (ZFJ (fun x => decide (v = x)) h 0 m) /\ n = 1 /\ h' = [] := by
 refine sE Tryz.func150 ic150_eq [.t 4] fun G hP hA => ?_
 unfold evF ic150
 conv => whnf
 refine ZAg (α := Nat) (ds := []) (N := 1) (fun i => [(8, sInt .i64 (i : Int))]) [] (fun _ => [])
  (fun i => i <= m /\ ZFJ (fun x => decide (v = x)) h 0 m = ZFJ (fun x => decide (v = x)) h i (m - i)) (fun i => m - i) 0 ⟨Nat.zero_le _, rfl⟩ ?_ fun i hi => ?_
 ·exact iA
 ·obtain ⟨hi0, hi1⟩ := hi
  conv => whnf
  refine dsplit (fun h1 => ?_) (fun h1 => ?_)
  ·have hst : ZFJ (fun x => decide (v = x)) h i (m - i) = if decide (v = h i) = true then (i : Int) else ZFJ (fun x => decide (v = x)) h (i + 1) (m - (i + 1)) := by
    rw [show m - i = (m - (i + 1)) + 1 by omega]; rfl
   conv => whnf
   refine zP ?_
   refine dsplit (fun h2 => ?_) (fun h2 => ?_)
   ·replace h2 : v = h i := h2
    conv => whnf
    refine fI ?_
    rw [hi1, hst, if_pos (decide_eq_true h2)]
   ·replace h2 : ¬ v = h i := h2
    conv => whnf
    refine zP ?_
    refine ⟨i + 1, ⟨by omega, ?_⟩, by omega, ?_⟩
    ·rw [hi1, hst, if_neg (by simp [h2])]
    ·exact iA
  ·obtain rfl : i = m := by omega
   conv => whnf
   refine fI ?_
   rw [hi1, Nat.sub_self]
   rfl
theorem ZIb (v : Int) (h : Nat -> Int) (m : Nat) (hm : m <= 1000000) :
  ZAE Tryz.prog 123 [(0, some (.ro 1 m (numE h)))] 1 [.l (.s 0 1 0 m 0), .l (.v (.int .i64 v))] fun x h' n => x = ZAR (anyZ (fun x => decide (v = x)) h m) /\ n = 1 /\ h' = [] := by
 have hi := ZM0 v h m hm
 have he := ZIS (fun x => decide (v = x)) h m 0
 simp only [Nat.zero_add] at he
 refine sE Tryz.func123 ic123_eq [.t 4] fun G hP hA => ?_
 unfold evF ic123
 conv => whnf
 refine cA (hi) ?_
 refine fB ?_
 rw [Bool.eq_iff_iff, decide_eq_true_iff]
 exact he
def sizN : Nat -> Int
 | 0 => 1
 | 1 => 2
 | 2 => 4
 | 3 => 8
 | 4 => 16
 | 5 => 32
 | 6 => 64
 | _ => 128
theorem ZDi {a b : Int} {K : Int -> Prop} (h : IntKind.i64.wrap (a * 2 ^ (min (1 : Int).toNat IntKind.i64.bits)) = b) (hk : K b) : ShlP .i64 a 1 K := ⟨⟨by decide, by rw [h]; exact hk⟩⟩
theorem ZM1 : ZAE Tryz.prog 132 [] 0 [] fun x h n => x = .o (.l (.s 0 1 0 7 0)) /\ n = 1 /\ h = [(0, some (.ar 1 7 (numE sizN)))] := by
 refine sE Tryz.func132 ic132_eq [.t 0] fun G hP hA => ?_
 unfold evF ic132
 conv => whnf
 refine ZAg (α := Nat) (ds := []) (N := 1) (fun i => [(1, .o (.l (.s 0 1 0 i 0))), (2, sInt .i64 (sizN i))]) [] (fun i => [(0, some (.ar 1 i (numE sizN)))])
  (fun i => i <= 7) (fun i => 7 - i) 0 (Nat.zero_le _) ?_ fun i hi => ?_
 ·conv => whnf
  refine Imp.trans (ZRw 1 1 (numE sizN) rfl) ?_
  exact iA
 ·rcases (show i = 0 \/ i = 1 \/ i = 2 \/ i = 3 \/ i = 4 \/ i = 5 \/ i = 6 \/ i = 7 by omega) with rfl | rfl | rfl | rfl | rfl | rfl | rfl | rfl
  ·conv => whnf
   refine zP ?_
   refine ZDi (b := sizN 1) (by decide +kernel) ?_
   conv => whnf
   refine ⟨1, by omega, by omega, ?_⟩
   refine iQ ?_
   refine And.intro (And.intro rfl (And.intro rfl fun j hj => ?_)) ZAB
   obtain rfl : j = 0 := by omega
   rfl
  ·conv => whnf
   refine zP ?_
   refine ZDi (b := sizN 2) (by decide +kernel) ?_
   conv => whnf
   refine ⟨2, by omega, by omega, ?_⟩
   refine iQ ?_
   refine And.intro (And.intro rfl (And.intro rfl fun j hj => ?_)) ZAB
   exact ZCE (f := numE sizN) (i := 1) rfl j hj
  ·conv => whnf
   refine zP ?_
   refine ZDi (b := sizN 3) (by decide +kernel) ?_
   conv => whnf
   refine ⟨3, by omega, by omega, ?_⟩
   refine iQ ?_
   refine And.intro (And.intro rfl (And.intro rfl fun j hj => ?_)) ZAB
   exact ZCE (f := numE sizN) (i := 2) rfl j hj
  ·conv => whnf
   refine zP ?_
   refine ZDi (b := sizN 4) (by decide +kernel) ?_
   conv => whnf
   refine ⟨4, by omega, by omega, ?_⟩
   refine iQ ?_
   refine And.intro (And.intro rfl (And.intro rfl fun j hj => ?_)) ZAB
   exact ZCE (f := numE sizN) (i := 3) rfl j hj
  ·conv => whnf
   refine zP ?_
   refine ZDi (b := sizN 5) (by decide +kernel) ?_
   conv => whnf
   refine ⟨5, by omega, by omega, ?_⟩
   refine iQ ?_
   refine And.intro (And.intro rfl (And.intro rfl fun j hj => ?_)) ZAB
   exact ZCE (f := numE sizN) (i := 4) rfl j hj
  ·conv => whnf
   refine zP ?_
   refine ZDi (b := sizN 6) (by decide +kernel) ?_
   conv => whnf
   refine ⟨6, by omega, by omega, ?_⟩
   refine iQ ?_
   refine And.intro (And.intro rfl (And.intro rfl fun j hj => ?_)) ZAB
   exact ZCE (f := numE sizN) (i := 5) rfl j hj
  ·conv => whnf
   refine zP ?_
   refine ZDi (b := sizN 7) (by decide +kernel) ?_
   conv => whnf
   refine ⟨7, by omega, by omega, ?_⟩
   refine iQ ?_
   refine And.intro (And.intro rfl (And.intro rfl fun j hj => ?_)) ZAB
   exact ZCE (f := numE sizN) (i := 6) rfl j hj
  ·conv => whnf
   refine zP ?_
   exact fA

theorem ZEo (n : Nat) (ws hs : Nat -> Int) : ZAE Tryz.prog 62 [(0, some (memP n ws hs))] 1 [.l (.p 0 0 0 0)] fun x h k => x = sInt .i64 (n : Int) /\ k = 1 /\ h = [(0, some (memP n ws hs))] := by
 refine sG (ZAV (memH n ws hs) 3 0 (by omega)) Tryz.func62 ic62_eq [.t 2] fun G hP hA => ?_
 unfold evF ic62
 conv => whnf
 (refine ZAD (H := (memH n ws hs)) (np := 3) 0 0 (Nat.le_of_ble_eq_true rfl) ?_; conv => whnf); (refine zK ?_)
 exact fA
theorem ZRC : ExtA Tryz.prog 98 (Extern.Atomic.loadT (.int .u32)) := ⟨_, Tryz.func98, by kernel_rfl, by kernel_rfl, by kernel_rfl, by kernel_rfl⟩
theorem ZSF : ExtA Tryz.prog 230 (Extern.Atomic.update (Op.intArith .add) .u32 true) := ⟨_, Tryz.func230, by kernel_rfl, by kernel_rfl, by kernel_rfl, by kernel_rfl⟩
theorem ZRD : ExtA Tryz.prog 242 (Extern.Atomic.swapT (.int .u32)) := ⟨_, Tryz.func242, by kernel_rfl, by kernel_rfl, by kernel_rfl, by kernel_rfl⟩
theorem ZQQ : ExtA Tryz.prog 251 (Extern.Atomic.casT (.int .u32)) := ⟨_, Tryz.func251, by kernel_rfl, by kernel_rfl, by kernel_rfl, by kernel_rfl⟩
theorem ZM5 (n i : Nat) (ws : Nat -> Int) (hi : i < n) :
  ZAE Tryz.prog 57 [(0, some (.ar 1 n (ZCZ ws)))] 1 [.l (.p 0 1 i 0)] fun x h k => x = sInt .u32 (ws i) /\ k = 1 /\ h = [(0, some (.ar 1 n (ZCZ ws)))] := by
 refine sE Tryz.func57 ic57_eq [.t 2] fun G hP hA => ?_
 unfold evF ic57
 conv => whnf
 refine ZO1 (q := .u32) (x := ws i) (hP ▸ ZRC) rfl rfl hi (by omega) rfl ?_
 conv => whnf
 exact fA
theorem ZM6 (n i : Nat) (ws : Nat -> Int) (v : Int) (hi : i < n) :
  ZAE Tryz.prog 241 [(0, some (.ar 1 n (ZCZ ws)))] 1 [.l (.p 0 1 i 0), .l (.v (.int .u32 v))] fun x h k => x = sInt .u32 (ws i) /\ k = 1 /\ h = [(0, some (.ar 1 n (ZCZ (updF ws i v))))] := by
 refine sE Tryz.func241 ic241_eq [.t 4] fun G hP hA => ?_
 unfold evF ic241
 conv => whnf
 refine ZO6 (q := .u32) (x := ws i) (hP ▸ ZRD) rfl rfl rfl hi (by omega) rfl ?_
 conv => whnf
 refine ⟨hi, ?_⟩
 conv => whnf
 refine fQ ?_ ?_
 ·rfl
 ·refine ⟨⟨rfl, rfl, fun j hj => updE ws i v j⟩, trivial⟩
def addW (x d : Int) : Int := IntKind.u32.wrap (x + d)
theorem ZOi (n i : Nat) (ws : Nat -> Int) (d : Int) (hi : i < n) :
  ZAE Tryz.prog 228 [(0, some (.ar 1 n (ZCZ ws)))] 1 [.l (.p 0 1 i 0), .l (.v (.int .u32 d))] fun x h k => x = sInt .u32 (addW (ws i) d) /\ k = 1 /\ h = [(0, some (.ar 1 n (ZCZ (updF ws i (addW (ws i) d)))))] := by
 refine sE Tryz.func228 ic228_eq [.t 4] fun G hP hA => ?_
 unfold evF ic228
 conv => whnf
 refine ZQD (q := .u32) (x := ws i) (hP ▸ ZSF) rfl rfl rfl hi (by omega) rfl ?_
 conv => whnf
 refine ⟨hi, ?_⟩
 conv => whnf
 refine fQ ?_ ?_
 ·rfl
 ·refine ⟨⟨rfl, rfl, fun j hj => updE ws i (addW (ws i) d) j⟩, trivial⟩
theorem ZP0 (n i : Nat) (ws : Nat -> Int) (v : Int) (hi : i < n) :
  ZAE Tryz.prog 250 [(0, some (.ar 1 n (ZCZ ws)))] 1 [.l (.p 0 1 i 0), .l (.v (.int .u32 (ws i))), .l (.v (.int .u32 v))] fun x h k => x = ZAR true /\ k = 1 /\ h = [(0, some (.ar 1 n (ZCZ (updF ws i v))))] := by
 refine sE Tryz.func250 ic250_eq [.t 6] fun G hP hA => ?_
 unfold evF ic250
 conv => whnf
 refine ZQE (q := .u32) (x := ws i) (hP ▸ ZQQ) rfl rfl rfl rfl hi (by omega) rfl ?_
 conv => whnf
 refine ⟨hi, ?_⟩
 conv => whnf
 refine fQ ?_ ?_
 ·rfl
 ·refine ⟨⟨rfl, rfl, fun j hj => updE ws i v j⟩, trivial⟩
theorem ZOj (n i : Nat) (ws : Nat -> Int) (o v : Int) (hi : i < n) (ho : ¬ ws i = o) :
  ZAE Tryz.prog 250 [(0, some (.ar 1 n (ZCZ ws)))] 1 [.l (.p 0 1 i 0), .l (.v (.int .u32 o)), .l (.v (.int .u32 v))] fun x h k => x = ZAR false /\ k = 1 /\ h = [(0, some (.ar 1 n (ZCZ ws)))] := by
 refine sE Tryz.func250 ic250_eq [.t 6] fun G hP hA => ?_
 unfold evF ic250
 conv => whnf
 refine ZO7 (q := .u32) (x := ws i) (hP ▸ ZQQ) rfl rfl rfl rfl hi (by omega) rfl ho ?_
 conv => whnf
 exact fA
theorem ZM7 (n i : Nat) (ws hs : Nat -> Int) (hi : i < n) (hn : n <= 1000000) :
  ZAE Tryz.prog 224 [(0, some (memP n ws hs))] 1 [.l (.p 0 0 0 0), .l (.v (.int .i64 i))] fun x h k => x = sInt .u32 (ws i) /\ k = 1 /\ h = [(0, some (memP n ws hs))] := by
 have ha := ZEJ n i ws hs hi hn
 have hs' := ZM5 n i ws hi
 refine sG (ZAV (memH n ws hs) 3 0 (by omega)) Tryz.func224 ic224_eq [.t 4] fun G hP hA => ?_
 unfold evF ic224
 conv => whnf
 refine cA (ha) ?_
 refine cA (hs') ?_
 (refine ZAD (H := (memH n ws hs)) (np := 3) 0 0 (Nat.le_of_ble_eq_true rfl) ?_; conv => whnf); (refine zK ?_)
 exact fA
theorem ZM8 (n i : Nat) (ws hs : Nat -> Int) (v : Int) (hi : i < n) (hn : n <= 1000000) :
  ZAE Tryz.prog 240 [(0, some (memP n ws hs))] 1 [.l (.p 0 0 0 0), .l (.v (.int .i64 i)), .l (.v (.int .u32 v))] fun x h k => x = sInt .u32 (ws i) /\ k = 1 /\ h = [(0, some (memP n (updF ws i v) hs))] := by
 have ha := ZEJ n i ws hs hi hn
 have hs' := ZM6 n i ws v hi
 refine sG (ZAV (memH n ws hs) 3 0 (by omega)) Tryz.func240 ic240_eq [.t 6] fun G hP hA => ?_
 unfold evF ic240
 conv => whnf
 refine cA (ha) ?_
 refine cA (hs') ?_
 (refine ZAD (H := (memH n (updF ws i v) hs)) (np := 3) 0 0 (Nat.le_of_ble_eq_true rfl) ?_; conv => whnf); (refine zK ?_)
 exact fA
theorem ZOk (n i : Nat) (ws hs : Nat -> Int) (d : Int) (hi : i < n) (hn : n <= 1000000) :
  ZAE Tryz.prog 226 [(0, some (memP n ws hs))] 1 [.l (.p 0 0 0 0), .l (.v (.int .i64 i)), .l (.v (.int .u32 d))] fun x h k => x = sInt .u32 (addW (addW (ws i) d) (-d)) /\ k = 1 /\ h = [(0, some (memP n (updF ws i (addW (ws i) d)) hs))] := by
 have ha := ZEJ n i ws hs hi hn
 have hs' := ZOi n i ws d hi
 refine sG (ZAV (memH n ws hs) 3 0 (by omega)) Tryz.func226 ic226_eq [.t 6] fun G hP hA => ?_
 unfold evF ic226
 conv => whnf
 refine cA (ha) ?_
 refine cA (hs') ?_
 refine arW ?_
 conv => whnf
 (refine ZAD (H := (memH n (updF ws i (addW (ws i) d)) hs)) (np := 3) 0 0 (Nat.le_of_ble_eq_true rfl) ?_; conv => whnf); (refine zK ?_)
 exact fA
theorem ZM9 (n i : Nat) (ws hs : Nat -> Int) (v : Int) (hi : i < n) (hn : n <= 1000000) :
  ZAE Tryz.prog 249 [(0, some (memP n ws hs))] 1 [.l (.p 0 0 0 0), .l (.v (.int .i64 i)), .l (.v (.int .u32 (ws i))), .l (.v (.int .u32 v))] fun x h k => x = ZAR true /\ k = 1 /\ h = [(0, some (memP n (updF ws i v) hs))] := by
 have ha := ZEJ n i ws hs hi hn
 have hs' := ZP0 n i ws v hi
 refine sG (ZAV (memH n ws hs) 3 0 (by omega)) Tryz.func249 ic249_eq [.t 8] fun G hP hA => ?_
 unfold evF ic249
 conv => whnf
 refine cA (ha) ?_
 refine cA (hs') ?_
 (refine ZAD (H := (memH n (updF ws i v) hs)) (np := 3) 0 0 (Nat.le_of_ble_eq_true rfl) ?_; conv => whnf); (refine zK ?_)
 exact fA
theorem ZLG (n i : Nat) (ws hs : Nat -> Int) (o v : Int) (hi : i < n) (hn : n <= 1000000) (ho : ¬ ws i = o) :
  ZAE Tryz.prog 249 [(0, some (memP n ws hs))] 1 [.l (.p 0 0 0 0), .l (.v (.int .i64 i)), .l (.v (.int .u32 o)), .l (.v (.int .u32 v))] fun x h k => x = ZAR false /\ k = 1 /\ h = [(0, some (memP n ws hs))] := by
 have ha := ZEJ n i ws hs hi hn
 have hs' := ZOj n i ws o v hi ho
 refine sG (ZAV (memH n ws hs) 3 0 (by omega)) Tryz.func249 ic249_eq [.t 8] fun G hP hA => ?_
 unfold evF ic249
 conv => whnf
 refine cA (ha) ?_
 refine cA (hs') ?_
 (refine ZAD (H := (memH n ws hs)) (np := 3) 0 0 (Nat.le_of_ble_eq_true rfl) ?_; conv => whnf); (refine zK ?_)
 exact fA
def ownB (t : Nat) : Int := IntKind.u64.wrap (1 * 2 ^ (min ((t : Int)).toNat IntKind.u64.bits))
def orB (a b : Int) : Int := bitZ .or .u64 a b
def incZ (x : Int) : Int := IntKind.i64.wrap (x + 1)
def ZHP (cp : Nat -> Int) (t a : Nat) : Bool := decide (bitZ .and .u64 (cp a) (ownB t) = 0)
def ZFM (cp : Nat -> Int) (t a : Nat) : Bool := decide (cp a ≠ ownB t)
def msT (b : Bool) (ms : Nat -> Int) (t : Nat) : Nat -> Int := match b with | true => updF ms t (incZ (ms t)) | false => ms
theorem updC (f : Nat -> Int) (i : Nat) (v : Int) (j : Nat) : mrgL (j = i) (ZAI (ZOd f j) 0 [.int .u64 v]) (ZOd f j) = ZOd (updF f i v) j := by
 simp only [ZOd, updF, ZAI, setL, mrgL, ZA0]
 by_cases h : j = i <;> simp [h]
theorem updM (f : Nat -> Int) (i : Nat) (v : Int) (j : Nat) : mrgL (j = i) (ZAI (numE f j) 0 [.int .i64 v]) (numE f j) = numE (updF f i v) j := by
 simp only [numE, updF, ZAI, setL, mrgL, ZA0]
 by_cases h : j = i <;> simp [h]
theorem ZQR {t : Nat} {K : Int -> Prop} (h : K (ownB t)) : ShlP .u64 1 (t : Int) K := by rw [ZAu]; exact ⟨by omega, h⟩
theorem ZFN (nw nt : Nat) (cp ms : Nat -> Int) (t a : Nat) (ht : t < nt) (ha : a < nw) (hnt : nt <= 64) (hnw : nw <= 4096) :
  ZAE Tryz.prog 229 (ZEW nw nt cp ms) 3 [.l (.p 0 0 0 0), .l (.v (.int .i64 t)), .l (.v (.int .i64 a))] fun x h k => x = ZAR true /\ k = 3 /\ h = ZEW nw nt cp ms := by
 refine sE Tryz.func229 ic229_eq [.t 6] fun G hP hA => ?_
 unfold evF ic229
 conv => whnf
 (repeat' (first | (refine ZAH ?_; conv => whnf) | (refine dsplit (fun _ => ?_) (fun _ => ?_) <;> conv => whnf)))
 all_goals first | (exfalso; omega) | skip
 refine fB ?_
 simp; omega
theorem ZAs (f : Nat -> Int) (i : Nat) (u v : Int) : updF (updF f i u) i v = updF f i v := by
 funext j
 simp only [updF]
 by_cases h : j = i <;> simp [h]
theorem ZLH (nw nt : Nat) (cp ms : Nat -> Int) (t a : Nat) (ht : t < nt) (ha : a < nw) (hnt : nt <= 64) (hnw : nw <= 4096) :
  ZAE Tryz.prog 227 [(0, some (ZHi nw nt cp ms))] 1 [.l (.p 0 0 0 0), .l (.v (.int .i64 t)), .l (.v (.int .i64 a)), .l (.v (.bool false))] fun x h k =>
   x = ZAR (ZHP cp t a) /\ k = 1 /\ h = [(0, some (ZHi nw nt (updF cp a (orB (cp a) (ownB t))) (msT (ZHP cp t a) ms t)))] := by
 have hth := ZFN nw nt cp ms t a ht ha hnt hnw
 have hna : nadd 0 ((a : Int)).toNat = a := by simp [ZAO]
 have hnt : nadd 0 ((t : Int)).toNat = t := by simp [ZAO]
 refine sG (ZAV (ZEW nw nt cp ms) 3 0 (by omega)) Tryz.func227 ic227_eq [.t 8] fun G hP hA => ?_
 unfold evF ic227
 conv => whnf
 refine cA (hth) ?_
 refine ZQR ?_
 conv => whnf
 refine zP ?_
 refine zJ ?_
 conv => whnf
 refine zP ?_
 refine zJ ?_
 conv => whnf
 refine dsplit (fun hq => ?_) (fun hq => ?_)
 ·conv => whnf
  refine zP ?_
  refine arW ?_
  conv => whnf
  refine zP ?_
  rw [hna, hnt]
  have e : ZHP cp t a = true := decide_eq_true hq
  (refine ZAD (H := (ZEW nw nt (updF cp a (orB (cp a) (ownB t))) (msT (ZHP cp t a) ms t))) (np := 3) 0 0 (Nat.le_of_ble_eq_true rfl) ?_; conv => whnf); (refine ⟨⟨rfl, by omega, rfl, rfl, ?_, rfl⟩, ?_⟩)
  ·exact ⟨rfl, ⟨rfl, rfl, fun j hj => updC cp a _ j⟩, ⟨rfl, rfl, fun j hj => by rw [e]; exact updM ms t _ j⟩, trivial⟩
  conv => whnf
  exact fA
 ·conv => whnf
  rw [hna]
  have e : ZHP cp t a = false := decide_eq_false hq
  (refine ZAD (H := (ZEW nw nt (updF cp a (orB (cp a) (ownB t))) (msT (ZHP cp t a) ms t))) (np := 3) 0 0 (Nat.le_of_ble_eq_true rfl) ?_; conv => whnf); (refine ⟨⟨rfl, by omega, rfl, rfl, ?_, rfl⟩, ?_⟩)
  ·exact ⟨rfl, ⟨rfl, rfl, fun j hj => updC cp a _ j⟩, ⟨rfl, rfl, fun j hj => by rw [e]; rfl⟩, trivial⟩
  conv => whnf
  exact fA
theorem ZLI (nw nt : Nat) (cp ms : Nat -> Int) (t a : Nat) (ht : t < nt) (ha : a < nw) (hnt : nt <= 64) (hnw : nw <= 4096) :
  ZAE Tryz.prog 227 [(0, some (ZHi nw nt cp ms))] 1 [.l (.p 0 0 0 0), .l (.v (.int .i64 t)), .l (.v (.int .i64 a)), .l (.v (.bool true))] fun x h k =>
   x = ZAR (ZFM cp t a) /\ k = 1 /\ h = [(0, some (ZHi nw nt (updF cp a (ownB t)) (msT (ZFM cp t a) ms t)))] := by
 have hth := ZFN nw nt cp ms t a ht ha hnt hnw
 have hna : nadd 0 ((a : Int)).toNat = a := by simp [ZAO]
 have hnt : nadd 0 ((t : Int)).toNat = t := by simp [ZAO]
 refine sG (ZAV (ZEW nw nt cp ms) 3 0 (by omega)) Tryz.func227 ic227_eq [.t 8] fun G hP hA => ?_
 unfold evF ic227
 conv => whnf
 refine cA (hth) ?_
 refine ZQR ?_
 conv => whnf
 refine zP ?_
 refine zJ ?_
 conv => whnf
 refine zP ?_
 refine zJ ?_
 conv => whnf
 refine dsplit (fun hq => ?_) (fun hq => ?_)
 ·conv => whnf
  refine zP ?_
  refine arW ?_
  conv => whnf
  refine zP ?_
  rw [hna, hnt]
  have e : ZFM cp t a = true := decide_eq_true hq
  (refine ZAD (H := (ZEW nw nt (updF cp a (ownB t)) (msT (ZFM cp t a) ms t))) (np := 3) 0 0 (Nat.le_of_ble_eq_true rfl) ?_; conv => whnf); (refine ⟨⟨rfl, by omega, rfl, rfl, ?_, rfl⟩, ?_⟩)
  ·exact ⟨rfl, ⟨rfl, rfl, fun j hj => by simp only [updC, ZAs]⟩, ⟨rfl, rfl, fun j hj => by rw [e]; exact updM ms t _ j⟩, trivial⟩
  conv => whnf
  exact fA
 ·conv => whnf
  rw [hna]
  have e : ZFM cp t a = false := decide_eq_false hq
  (refine ZAD (H := (ZEW nw nt (updF cp a (ownB t)) (msT (ZFM cp t a) ms t))) (np := 3) 0 0 (Nat.le_of_ble_eq_true rfl) ?_; conv => whnf); (refine ⟨⟨rfl, by omega, rfl, rfl, ?_, rfl⟩, ?_⟩)
  ·exact ⟨rfl, ⟨rfl, rfl, fun j hj => by simp only [updC, ZAs]⟩, ⟨rfl, rfl, fun j hj => by rw [e]; rfl⟩, trivial⟩
  conv => whnf
  exact fA
theorem ZSG (f g : Nat -> Int) (i : Nat) (v : Int) (j : Nat) : mrgL (j = i) (ZAI (ZFK f g j) 0 [.int .i64 v]) (ZFK f g j) = ZFK (updF f i v) g j := by
 simp only [ZFK, updF, ZAI, setL, mrgL, ZA0]
 by_cases h : j = i <;> simp [h]
theorem ZSe (f g : Nat -> Int) (i : Nat) (v : Int) (j : Nat) : mrgL (j = i) (ZAI (ZFK f g j) 1 [.int .i64 v]) (ZFK f g j) = ZFK f (updF g i v) j := by
 simp only [ZFK, updF, ZAI, setL, mrgL, ZA0]
 by_cases h : j = i <;> simp [h]
theorem ZSH (f g : Nat -> Int) (i : Nat) (u : Int) (j : Nat) :
  mrgL (j = i) (ZAI (mrgL (j = i) (ZAI (ZFK f g j) 0 [.int .i64 u]) (ZFK f g j)) 1 [.int .i64 (IntKind.i64.wrap ((if i = i then g i else g i) + 1))]) (mrgL (j = i) (ZAI (ZFK f g j) 0 [.int .i64 u]) (ZFK f g j)) = ZFK (updF f i u) (updF g i (incZ (g i))) j := by
 rw [ite_self, ZSG, ZSe]
 rfl
theorem ZNA (nt nw : Nat) (ws hs cp ms ac wr : Nat -> Int) (t a : Nat) (ht : t < nt) (ha : a < nw) (hnt : nt <= 64) (hnw : nw <= 4096) :
  ZAE Tryz.prog 223 (ZBk nt nw ws hs cp ms ac wr) 4 [.l (.p 0 0 0 0), .l (.v (.int .i64 t)), .l (.v (.int .i64 a)), .l (.v (.bool false))] fun x h k =>
   x = ZAR true /\ k = 4 /\ h = ZBk nt nw ws hs (updF cp a (orB (cp a) (ownB t))) (msT (ZHP cp t a) ms t) (updF ac t (incZ (ac t))) wr := by
 have hml := ZEo nw ws hs
 have hct := ZLH nw nt cp ms t a ht ha hnt hnw
 have hna : nadd 0 ((a : Int)).toNat = a := by simp [ZAO]
 have hnt' : nadd 0 ((t : Int)).toNat = t := by simp [ZAO]
 refine sE Tryz.func223 ic223_eq [.t 8] fun G hP hA => ?_
 unfold evF ic223
 conv => whnf
 (repeat' (first | (refine ZAH ?_; conv => whnf) | (refine dsplit (fun _ => ?_) (fun _ => ?_) <;> conv => whnf)))
 all_goals first | (exfalso; omega) | skip
 refine cA (hml) ?_
 (repeat' (first | (refine ZAH ?_; conv => whnf) | (refine dsplit (fun _ => ?_) (fun _ => ?_) <;> conv => whnf)))
 all_goals first | (exfalso; omega) | skip
 refine zD ?_
 refine zP ?_
 refine arW ?_
 conv => whnf
 refine zP ?_
 refine zO ?_
 refine zJ ?_
 conv => whnf
 refine cA (hct) ?_
 rw [hnt']
 refine fQ ?_ ?_
 ·rfl
 ·exact ⟨rfl, ZAB, ZAB, ⟨rfl, rfl, fun j hj => ZSG ac wr t _ j⟩, trivial⟩
theorem ZDa (nt nw : Nat) (ws hs cp ms ac wr : Nat -> Int) (t a : Nat) (ht : t < nt) (ha : a < nw) (hnt : nt <= 64) (hnw : nw <= 4096) :
  ZAE Tryz.prog 223 (ZBk nt nw ws hs cp ms ac wr) 4 [.l (.p 0 0 0 0), .l (.v (.int .i64 t)), .l (.v (.int .i64 a)), .l (.v (.bool true))] fun x h k =>
   x = ZAR true /\ k = 4 /\ h = ZBk nt nw ws hs (updF cp a (ownB t)) (msT (ZFM cp t a) ms t) (updF ac t (incZ (ac t))) (updF wr t (incZ (wr t))) := by
 have hml := ZEo nw ws hs
 have hct := ZLI nw nt cp ms t a ht ha hnt hnw
 have hna : nadd 0 ((a : Int)).toNat = a := by simp [ZAO]
 have hnt' : nadd 0 ((t : Int)).toNat = t := by simp [ZAO]
 refine sE Tryz.func223 ic223_eq [.t 8] fun G hP hA => ?_
 unfold evF ic223
 conv => whnf
 (repeat' (first | (refine ZAH ?_; conv => whnf) | (refine dsplit (fun _ => ?_) (fun _ => ?_) <;> conv => whnf)))
 all_goals first | (exfalso; omega) | skip
 refine cA (hml) ?_
 (repeat' (first | (refine ZAH ?_; conv => whnf) | (refine dsplit (fun _ => ?_) (fun _ => ?_) <;> conv => whnf)))
 all_goals first | (exfalso; omega) | skip
 refine zD ?_
 refine zP ?_
 refine arW ?_
 conv => whnf
 refine zP ?_
 refine zO ?_
 refine zJ ?_
 conv => whnf
 refine zD ?_
 refine zP ?_
 refine arW ?_
 conv => whnf
 refine zP ?_
 refine zO ?_
 conv => whnf
 refine cA (hct) ?_
 rw [hnt']
 refine fQ ?_ ?_
 ·rfl
 ·exact ⟨rfl, ZAB, ZAB, ⟨rfl, rfl, fun j hj => ZSH ac wr t _ j⟩, trivial⟩
def ZSf (nt nw : Nat) (ws hs cp ms ac wr : Nat -> Int) (t a : Nat) : Ent := ZBy nt nw ws hs (updF cp a (orB (cp a) (ownB t))) (msT (ZHP cp t a) ms t) (updF ac t (incZ (ac t))) wr
def ZOl (nt nw : Nat) (ws hs cp ms ac wr : Nat -> Int) (t a : Nat) : Ent := ZBy nt nw ws hs (updF cp a (ownB t)) (msT (ZFM cp t a) ms t) (updF ac t (incZ (ac t))) (updF wr t (incZ (wr t)))
theorem ZIi (nt nw : Nat) (ws hs cp ms ac wr : Nat -> Int) (t a : Nat)  (ht : t < nt) (ha : a < nw) (hnt : nt <= 64) (hnw : nw <= 4096) :
  ZAE Tryz.prog 220 [(0, some (ZBy nt nw ws hs cp ms ac wr))] 1 [.l (.p 0 0 0 0), .l (.v (.int .i64 t)), .l (.v (.int .i64 a))] fun x h k =>
   x = sInt .u32 (ws a) /\ k = 1 /\ h = [(0, some (ZSf nt nw ws hs cp ms ac wr t a))] := by
 have htc := ZNA nt nw ws hs cp ms ac wr t a ht ha hnt hnw
 have hmm := ZM7 nw a ws hs ha (by omega)
 refine sG (ZAV (ZBk nt nw ws hs cp ms ac wr) 4 0 (by omega)) Tryz.func220 ic220_eq [.t 6] fun G hP hA => ?_
 unfold evF ic220
 conv => whnf
 refine cA (htc) ?_
 refine cA (hmm) ?_
 (refine ZAD (H := (ZBk nt nw ws hs (updF cp a (orB (cp a) (ownB t))) (msT (ZHP cp t a) ms t) (updF ac t (incZ (ac t))) wr)) (np := 4) 0 0 (Nat.le_of_ble_eq_true rfl) ?_; conv => whnf); (refine zK ?_)
 exact fA
theorem ZHQ (nt nw : Nat) (ws hs cp ms ac wr : Nat -> Int) (t a : Nat) (v : Int) (ht : t < nt) (ha : a < nw) (hnt : nt <= 64) (hnw : nw <= 4096) :
  ZAE Tryz.prog 219 [(0, some (ZBy nt nw ws hs cp ms ac wr))] 1 [.l (.p 0 0 0 0), .l (.v (.int .i64 t)), .l (.v (.int .i64 a)), .l (.v (.int .u32 v))] fun x h k =>
   x = .t [] /\ k = 1 /\ h = [(0, some (ZOl nt nw (updF ws a v) hs cp ms ac wr t a))] := by
 have htc := ZDa nt nw ws hs cp ms ac wr t a ht ha hnt hnw
 have hmm := ZGg nw a ws hs v ha (by omega)
 refine sG (ZAV (ZBk nt nw ws hs cp ms ac wr) 4 0 (by omega)) Tryz.func219 ic219_eq [] fun G hP hA => ?_
 unfold evF ic219
 conv => whnf
 refine cA (htc) ?_
 refine cA (hmm) ?_
 (refine ZAD (H := (ZBk nt nw (updF ws a v) hs (updF cp a (ownB t)) (msT (ZFM cp t a) ms t) (updF ac t (incZ (ac t))) (updF wr t (incZ (wr t))))) (np := 4) 0 0 (Nat.le_of_ble_eq_true rfl) ?_; conv => whnf); (refine zK ?_)
 exact fA
theorem ZIj (nt nw : Nat) (ws hs cp ms ac wr : Nat -> Int) (t a : Nat) (v : Int) (ht : t < nt) (ha : a < nw) (hnt : nt <= 64) (hnw : nw <= 4096) :
  ZAE Tryz.prog 239 [(0, some (ZBy nt nw ws hs cp ms ac wr))] 1 [.l (.p 0 0 0 0), .l (.v (.int .i64 t)), .l (.v (.int .i64 a)), .l (.v (.int .u32 v))] fun x h k =>
   x = sInt .u32 (ws a) /\ k = 1 /\ h = [(0, some (ZOl nt nw (updF ws a v) hs cp ms ac wr t a))] := by
 have htc := ZDa nt nw ws hs cp ms ac wr t a ht ha hnt hnw
 have hmm := ZM8 nw a ws hs v ha (by omega)
 refine sG (ZAV (ZBk nt nw ws hs cp ms ac wr) 4 0 (by omega)) Tryz.func239 ic239_eq [.t 8] fun G hP hA => ?_
 unfold evF ic239
 conv => whnf
 refine cA (htc) ?_
 refine cA (hmm) ?_
 (refine ZAD (H := (ZBk nt nw (updF ws a v) hs (updF cp a (ownB t)) (msT (ZFM cp t a) ms t) (updF ac t (incZ (ac t))) (updF wr t (incZ (wr t))))) (np := 4) 0 0 (Nat.le_of_ble_eq_true rfl) ?_; conv => whnf); (refine zK ?_)
 exact fA
theorem ZJz (nt nw : Nat) (ws hs cp ms ac wr : Nat -> Int) (t a : Nat) (d : Int) (ht : t < nt) (ha : a < nw) (hnt : nt <= 64) (hnw : nw <= 4096) :
  ZAE Tryz.prog 222 [(0, some (ZBy nt nw ws hs cp ms ac wr))] 1 [.l (.p 0 0 0 0), .l (.v (.int .i64 t)), .l (.v (.int .i64 a)), .l (.v (.int .u32 d))] fun x h k =>
   x = sInt .u32 (addW (addW (ws a) d) (-d)) /\ k = 1 /\ h = [(0, some (ZOl nt nw (updF ws a (addW (ws a) d)) hs cp ms ac wr t a))] := by
 have htc := ZDa nt nw ws hs cp ms ac wr t a ht ha hnt hnw
 have hmm := ZOk nw a ws hs d ha (by omega)
 refine sG (ZAV (ZBk nt nw ws hs cp ms ac wr) 4 0 (by omega)) Tryz.func222 ic222_eq [.t 8] fun G hP hA => ?_
 unfold evF ic222
 conv => whnf
 refine cA (htc) ?_
 refine cA (hmm) ?_
 (refine ZAD (H := (ZBk nt nw (updF ws a (addW (ws a) d)) hs (updF cp a (ownB t)) (msT (ZFM cp t a) ms t) (updF ac t (incZ (ac t))) (updF wr t (incZ (wr t))))) (np := 4) 0 0 (Nat.le_of_ble_eq_true rfl) ?_; conv => whnf); (refine zK ?_)
 exact fA
theorem ZLJ (nt nw : Nat) (ws hs cp ms ac wr : Nat -> Int) (t a : Nat) (v : Int) (ht : t < nt) (ha : a < nw) (hnt : nt <= 64) (hnw : nw <= 4096) :
  ZAE Tryz.prog 248 [(0, some (ZBy nt nw ws hs cp ms ac wr))] 1 [.l (.p 0 0 0 0), .l (.v (.int .i64 t)), .l (.v (.int .i64 a)), .l (.v (.int .u32 (ws a))), .l (.v (.int .u32 v))] fun x h k =>
   x = ZAR true /\ k = 1 /\ h = [(0, some (ZOl nt nw (updF ws a v) hs cp ms ac wr t a))] := by
 have htc := ZDa nt nw ws hs cp ms ac wr t a ht ha hnt hnw
 have hmm := ZM9 nw a ws hs v ha (by omega)
 refine sG (ZAV (ZBk nt nw ws hs cp ms ac wr) 4 0 (by omega)) Tryz.func248 ic248_eq [.t 10] fun G hP hA => ?_
 unfold evF ic248
 conv => whnf
 refine cA (htc) ?_
 refine cA (hmm) ?_
 (refine ZAD (H := (ZBk nt nw (updF ws a v) hs (updF cp a (ownB t)) (msT (ZFM cp t a) ms t) (updF ac t (incZ (ac t))) (updF wr t (incZ (wr t))))) (np := 4) 0 0 (Nat.le_of_ble_eq_true rfl) ?_; conv => whnf); (refine zK ?_)
 exact fA
theorem ZJ0 (nt nw : Nat) (ws hs cp ms ac wr : Nat -> Int) (t a : Nat) (o v : Int) (ht : t < nt) (ha : a < nw) (hnt : nt <= 64) (hnw : nw <= 4096) (ho : ¬ ws a = o) :
  ZAE Tryz.prog 248 [(0, some (ZBy nt nw ws hs cp ms ac wr))] 1 [.l (.p 0 0 0 0), .l (.v (.int .i64 t)), .l (.v (.int .i64 a)), .l (.v (.int .u32 o)), .l (.v (.int .u32 v))] fun x h k =>
   x = ZAR false /\ k = 1 /\ h = [(0, some (ZOl nt nw ws hs cp ms ac wr t a))] := by
 have htc := ZDa nt nw ws hs cp ms ac wr t a ht ha hnt hnw
 have hmm := ZLG nw a ws hs o v ha (by omega) ho
 refine sG (ZAV (ZBk nt nw ws hs cp ms ac wr) 4 0 (by omega)) Tryz.func248 ic248_eq [.t 10] fun G hP hA => ?_
 unfold evF ic248
 conv => whnf
 refine cA (htc) ?_
 refine cA (hmm) ?_
 (refine ZAD (H := (ZBk nt nw ws hs (updF cp a (ownB t)) (msT (ZFM cp t a) ms t) (updF ac t (incZ (ac t))) (updF wr t (incZ (wr t))))) (np := 4) 0 0 (Nat.le_of_ble_eq_true rfl) ?_; conv => whnf); (refine zK ?_)
 exact fA
structure PS where
 ws : Nat -> Int
 cp : Nat -> Int
 ms : Nat -> Int
 ac : Nat -> Int
 wr : Nat -> Int
def ZBC (nt nw : Nat) (hs : Nat -> Int) (s : PS) : Ent := ZBy nt nw s.ws hs s.cp s.ms s.ac s.wr
def inW (nw : Nat) (a : Int) : Bool := decide (0 <= a) && decide (a < (nw : Int))
def pick {α : Type} (b : Bool) (x y : α) : α := match b with | true => x | false => y
def rdN (t a : Nat) (s : PS) : PS := ⟨s.ws, updF s.cp a (orB (s.cp a) (ownB t)), msT (ZHP s.cp t a) s.ms t, updF s.ac t (incZ (s.ac t)), s.wr⟩
def twN (t a : Nat) (ws : Nat -> Int) (s : PS) : PS := ⟨ws, updF s.cp a (ownB t), msT (ZFM s.cp t a) s.ms t, updF s.ac t (incZ (s.ac t)), updF s.wr t (incZ (s.wr t))⟩
def rdS (nw t : Nat) (a : Int) (s : PS) : PS := pick (inW nw a) (rdN t a.toNat s) s
def rdV (nw : Nat) (a : Int) (s : PS) : Int := pick (inW nw a) (s.ws a.toNat) 0
def wtS (nw t : Nat) (a v : Int) (s : PS) : PS := pick (inW nw a) (twN t a.toNat (updF s.ws a.toNat v) s) s
def adV (nw : Nat) (a d : Int) (s : PS) : Int := pick (inW nw a) (addW (addW (s.ws a.toNat) d) (-d)) 0
def adS (nw t : Nat) (a d : Int) (s : PS) : PS := pick (inW nw a) (twN t a.toNat (updF s.ws a.toNat (addW (s.ws a.toNat) d)) s) s
def casB (nw : Nat) (a o : Int) (s : PS) : Bool := inW nw a && decide (s.ws a.toNat = o)
def casS (nw t : Nat) (a o v : Int) (s : PS) : PS := pick (inW nw a) (twN t a.toNat (pick (decide (s.ws a.toNat = o)) (updF s.ws a.toNat v) s.ws) s) s
theorem ZAY (nw : Nat) (a : Int) : (inW nw a = true /\ ∃ i : Nat, i < nw /\ a = (i : Int)) \/ (inW nw a = false /\ (a < 0 \/ (0 <= a /\ (nw : Int) <= a))) := by
 unfold inW
 by_cases h1 : 0 <= a
 ·by_cases h2 : a < (nw : Int)
  ·left
   refine ⟨by simp [h1, h2], a.toNat, by omega, by omega⟩
  ·right
   exact ⟨by simp [h1, h2], .inr ⟨h1, by omega⟩⟩
 ·right
  exact ⟨by simp [h1], .inl (by omega)⟩
theorem ZH4 (nt nw : Nat) (ws hs cp ms ac wr : Nat -> Int) (t : Nat) (a : Int) (b : Bool) (ht : t < nt) (ha : a < 0) (hnt : nt <= 64) :
  ZAE Tryz.prog 223 (ZBk nt nw ws hs cp ms ac wr) 4 [.l (.p 0 0 0 0), .l (.v (.int .i64 t)), .l (.v (.int .i64 a)), .l (.v (.bool b))] fun x h k =>
   x = ZAR false /\ k = 4 /\ h = ZBk nt nw ws hs cp ms ac wr := by
 refine sE Tryz.func223 ic223_eq [.t 8] fun G hP hA => ?_
 unfold evF ic223
 conv => whnf
 (repeat' (first | (refine ZAH ?_; conv => whnf) | (refine dsplit (fun _ => ?_) (fun _ => ?_) <;> conv => whnf)))
 all_goals first | (exfalso; omega) | skip
 exact fA
theorem ZH5 (nt nw : Nat) (ws hs cp ms ac wr : Nat -> Int) (t : Nat) (a : Int) (b : Bool) (ht : t < nt) (ha0 : 0 <= a) (ha : (nw : Int) <= a) (hnt : nt <= 64) :
  ZAE Tryz.prog 223 (ZBk nt nw ws hs cp ms ac wr) 4 [.l (.p 0 0 0 0), .l (.v (.int .i64 t)), .l (.v (.int .i64 a)), .l (.v (.bool b))] fun x h k =>
   x = ZAR false /\ k = 4 /\ h = ZBk nt nw ws hs cp ms ac wr := by
 have hml := ZEo nw ws hs
 refine sE Tryz.func223 ic223_eq [.t 8] fun G hP hA => ?_
 unfold evF ic223
 conv => whnf
 (repeat' (first | (refine ZAH ?_; conv => whnf) | (refine dsplit (fun _ => ?_) (fun _ => ?_) <;> conv => whnf)))
 all_goals first | (exfalso; omega) | skip
 refine cA (hml) ?_
 (repeat' (first | (refine ZAH ?_; conv => whnf) | (refine dsplit (fun _ => ?_) (fun _ => ?_) <;> conv => whnf)))
 all_goals first | (exfalso; omega) | skip
 exact fA
theorem ZB8 (nt nw : Nat) (ws hs cp ms ac wr : Nat -> Int) (t : Nat) (a : Int) (b : Bool) (ht : t < nt) (ha : a < 0 \/ (0 <= a /\ (nw : Int) <= a)) (hnt : nt <= 64) :
  ZAE Tryz.prog 223 (ZBk nt nw ws hs cp ms ac wr) 4 [.l (.p 0 0 0 0), .l (.v (.int .i64 t)), .l (.v (.int .i64 a)), .l (.v (.bool b))] fun x h k =>
   x = ZAR false /\ k = 4 /\ h = ZBk nt nw ws hs cp ms ac wr := by
 rcases ha with ha | ⟨h0, ha⟩
 ·exact ZH4 nt nw ws hs cp ms ac wr t a b ht ha hnt
 ·exact ZH5 nt nw ws hs cp ms ac wr t a b ht h0 ha hnt
theorem ZJG (nt nw : Nat) (ws hs cp ms ac wr : Nat -> Int) (t : Nat) (a : Int) (ht : t < nt) (ha : a < 0 \/ (0 <= a /\ (nw : Int) <= a)) (hnt : nt <= 64) :
  ZAE Tryz.prog 220 [(0, some (ZBy nt nw ws hs cp ms ac wr))] 1 [.l (.p 0 0 0 0), .l (.v (.int .i64 t)), .l (.v (.int .i64 a))] fun x h k =>
   x = sInt .u32 0 /\ k = 1 /\ h = [(0, some (ZBy nt nw ws hs cp ms ac wr))] := by
 have htc := ZB8 nt nw ws hs cp ms ac wr t a false ht ha hnt
 refine sG (ZAV (ZBk nt nw ws hs cp ms ac wr) 4 0 (by omega)) Tryz.func220 ic220_eq [.t 6] fun G hP hA => ?_
 unfold evF ic220
 conv => whnf
 refine cA (htc) ?_
 (refine ZAD (H := (ZBk nt nw ws hs cp ms ac wr)) (np := 4) 0 0 (Nat.le_of_ble_eq_true rfl) ?_; conv => whnf); (refine zK ?_)
 exact fA
theorem ZH6 (nt nw : Nat) (ws hs cp ms ac wr : Nat -> Int) (t : Nat) (a v : Int) (ht : t < nt) (ha : a < 0 \/ (0 <= a /\ (nw : Int) <= a)) (hnt : nt <= 64) :
  ZAE Tryz.prog 219 [(0, some (ZBy nt nw ws hs cp ms ac wr))] 1 [.l (.p 0 0 0 0), .l (.v (.int .i64 t)), .l (.v (.int .i64 a)), .l (.v (.int .u32 v))] fun x h k =>
   x = .t [] /\ k = 1 /\ h = [(0, some (ZBy nt nw ws hs cp ms ac wr))] := by
 have htc := ZB8 nt nw ws hs cp ms ac wr t a true ht ha hnt
 refine sG (ZAV (ZBk nt nw ws hs cp ms ac wr) 4 0 (by omega)) Tryz.func219 ic219_eq [] fun G hP hA => ?_
 unfold evF ic219
 conv => whnf
 refine cA (htc) ?_
 (refine ZAD (H := (ZBk nt nw ws hs cp ms ac wr)) (np := 4) 0 0 (Nat.le_of_ble_eq_true rfl) ?_; conv => whnf); (refine zK ?_)
 exact fA
theorem ZJH (nt nw : Nat) (ws hs cp ms ac wr : Nat -> Int) (t : Nat) (a v : Int) (ht : t < nt) (ha : a < 0 \/ (0 <= a /\ (nw : Int) <= a)) (hnt : nt <= 64) :
  ZAE Tryz.prog 239 [(0, some (ZBy nt nw ws hs cp ms ac wr))] 1 [.l (.p 0 0 0 0), .l (.v (.int .i64 t)), .l (.v (.int .i64 a)), .l (.v (.int .u32 v))] fun x h k =>
   x = sInt .u32 0 /\ k = 1 /\ h = [(0, some (ZBy nt nw ws hs cp ms ac wr))] := by
 have htc := ZB8 nt nw ws hs cp ms ac wr t a true ht ha hnt
 refine sG (ZAV (ZBk nt nw ws hs cp ms ac wr) 4 0 (by omega)) Tryz.func239 ic239_eq [.t 8] fun G hP hA => ?_
 unfold evF ic239
 conv => whnf
 refine cA (htc) ?_
 (refine ZAD (H := (ZBk nt nw ws hs cp ms ac wr)) (np := 4) 0 0 (Nat.le_of_ble_eq_true rfl) ?_; conv => whnf); (refine zK ?_)
 exact fA
theorem ZKa (nt nw : Nat) (ws hs cp ms ac wr : Nat -> Int) (t : Nat) (a d : Int) (ht : t < nt) (ha : a < 0 \/ (0 <= a /\ (nw : Int) <= a)) (hnt : nt <= 64) :
  ZAE Tryz.prog 222 [(0, some (ZBy nt nw ws hs cp ms ac wr))] 1 [.l (.p 0 0 0 0), .l (.v (.int .i64 t)), .l (.v (.int .i64 a)), .l (.v (.int .u32 d))] fun x h k =>
   x = sInt .u32 0 /\ k = 1 /\ h = [(0, some (ZBy nt nw ws hs cp ms ac wr))] := by
 have htc := ZB8 nt nw ws hs cp ms ac wr t a true ht ha hnt
 refine sG (ZAV (ZBk nt nw ws hs cp ms ac wr) 4 0 (by omega)) Tryz.func222 ic222_eq [.t 8] fun G hP hA => ?_
 unfold evF ic222
 conv => whnf
 refine cA (htc) ?_
 (refine ZAD (H := (ZBk nt nw ws hs cp ms ac wr)) (np := 4) 0 0 (Nat.le_of_ble_eq_true rfl) ?_; conv => whnf); (refine zK ?_)
 exact fA
theorem ZKb (nt nw : Nat) (ws hs cp ms ac wr : Nat -> Int) (t : Nat) (a o v : Int) (ht : t < nt) (ha : a < 0 \/ (0 <= a /\ (nw : Int) <= a)) (hnt : nt <= 64) :
  ZAE Tryz.prog 248 [(0, some (ZBy nt nw ws hs cp ms ac wr))] 1 [.l (.p 0 0 0 0), .l (.v (.int .i64 t)), .l (.v (.int .i64 a)), .l (.v (.int .u32 o)), .l (.v (.int .u32 v))] fun x h k =>
   x = ZAR false /\ k = 1 /\ h = [(0, some (ZBy nt nw ws hs cp ms ac wr))] := by
 have htc := ZB8 nt nw ws hs cp ms ac wr t a true ht ha hnt
 refine sG (ZAV (ZBk nt nw ws hs cp ms ac wr) 4 0 (by omega)) Tryz.func248 ic248_eq [.t 10] fun G hP hA => ?_
 unfold evF ic248
 conv => whnf
 refine cA (htc) ?_
 (refine ZAD (H := (ZBk nt nw ws hs cp ms ac wr)) (np := 4) 0 0 (Nat.le_of_ble_eq_true rfl) ?_; conv => whnf); (refine zK ?_)
 exact fA
theorem ldS (nt nw : Nat) (hs : Nat -> Int) (s : PS) (t : Nat) (a : Int) (ht : t < nt) (hnt : nt <= 64) (hnw : nw <= 4096) :
  ZAE Tryz.prog 220 [(0, some (ZBC nt nw hs s))] 1 [.l (.p 0 0 0 0), .l (.v (.int .i64 t)), .l (.v (.int .i64 a))] fun x h k =>
   x = sInt .u32 (rdV nw a s) /\ k = 1 /\ h = [(0, some (ZBC nt nw hs (rdS nw t a s)))] := by
 rcases ZAY nw a with ⟨hb, i, hi, rfl⟩ | ⟨hb, ho⟩
 ·simp only [rdV, rdS, hb, pick, Int.toNat_natCast]
  exact ZIi nt nw s.ws hs s.cp s.ms s.ac s.wr t i ht hi hnt hnw
 ·simp only [rdV, rdS, hb, pick]
  exact ZJG nt nw s.ws hs s.cp s.ms s.ac s.wr t a ht ho hnt
theorem stS (nt nw : Nat) (hs : Nat -> Int) (s : PS) (t : Nat) (a v : Int) (ht : t < nt) (hnt : nt <= 64) (hnw : nw <= 4096) :
  ZAE Tryz.prog 219 [(0, some (ZBC nt nw hs s))] 1 [.l (.p 0 0 0 0), .l (.v (.int .i64 t)), .l (.v (.int .i64 a)), .l (.v (.int .u32 v))] fun x h k =>
   x = .t [] /\ k = 1 /\ h = [(0, some (ZBC nt nw hs (wtS nw t a v s)))] := by
 rcases ZAY nw a with ⟨hb, i, hi, rfl⟩ | ⟨hb, ho⟩
 ·simp only [wtS, hb, pick, Int.toNat_natCast]
  exact ZHQ nt nw s.ws hs s.cp s.ms s.ac s.wr t i v ht hi hnt hnw
 ·simp only [wtS, hb, pick]
  exact ZH6 nt nw s.ws hs s.cp s.ms s.ac s.wr t a v ht ho hnt
theorem swS (nt nw : Nat) (hs : Nat -> Int) (s : PS) (t : Nat) (a v : Int) (ht : t < nt) (hnt : nt <= 64) (hnw : nw <= 4096) :
  ZAE Tryz.prog 239 [(0, some (ZBC nt nw hs s))] 1 [.l (.p 0 0 0 0), .l (.v (.int .i64 t)), .l (.v (.int .i64 a)), .l (.v (.int .u32 v))] fun x h k =>
   x = sInt .u32 (rdV nw a s) /\ k = 1 /\ h = [(0, some (ZBC nt nw hs (wtS nw t a v s)))] := by
 rcases ZAY nw a with ⟨hb, i, hi, rfl⟩ | ⟨hb, ho⟩
 ·simp only [rdV, wtS, hb, pick, Int.toNat_natCast]
  exact ZIj nt nw s.ws hs s.cp s.ms s.ac s.wr t i v ht hi hnt hnw
 ·simp only [rdV, wtS, hb, pick]
  exact ZJH nt nw s.ws hs s.cp s.ms s.ac s.wr t a v ht ho hnt
theorem adSp (nt nw : Nat) (hs : Nat -> Int) (s : PS) (t : Nat) (a d : Int) (ht : t < nt) (hnt : nt <= 64) (hnw : nw <= 4096) :
  ZAE Tryz.prog 222 [(0, some (ZBC nt nw hs s))] 1 [.l (.p 0 0 0 0), .l (.v (.int .i64 t)), .l (.v (.int .i64 a)), .l (.v (.int .u32 d))] fun x h k =>
   x = sInt .u32 (adV nw a d s) /\ k = 1 /\ h = [(0, some (ZBC nt nw hs (adS nw t a d s)))] := by
 rcases ZAY nw a with ⟨hb, i, hi, rfl⟩ | ⟨hb, ho⟩
 ·simp only [adV, adS, hb, pick, Int.toNat_natCast]
  exact ZJz nt nw s.ws hs s.cp s.ms s.ac s.wr t i d ht hi hnt hnw
 ·simp only [adV, adS, hb, pick]
  exact ZKa nt nw s.ws hs s.cp s.ms s.ac s.wr t a d ht ho hnt
theorem caS (nt nw : Nat) (hs : Nat -> Int) (s : PS) (t : Nat) (a o v : Int) (ht : t < nt) (hnt : nt <= 64) (hnw : nw <= 4096) :
  ZAE Tryz.prog 248 [(0, some (ZBC nt nw hs s))] 1 [.l (.p 0 0 0 0), .l (.v (.int .i64 t)), .l (.v (.int .i64 a)), .l (.v (.int .u32 o)), .l (.v (.int .u32 v))] fun x h k =>
   x = ZAR (casB nw a o s) /\ k = 1 /\ h = [(0, some (ZBC nt nw hs (casS nw t a o v s)))] := by
 rcases ZAY nw a with ⟨hb, i, hi, rfl⟩ | ⟨hb, ho⟩
 ·by_cases hc : s.ws i = o
  ·subst hc
   simp only [casB, casS, hb, pick, Int.toNat_natCast, decide_true, Bool.and_true]
   exact ZLJ nt nw s.ws hs s.cp s.ms s.ac s.wr t i v ht hi hnt hnw
  ·simp only [casB, casS, hb, pick, Int.toNat_natCast, hc, decide_false, Bool.and_false]
   exact ZJ0 nt nw s.ws hs s.cp s.ms s.ac s.wr t i o v ht hi hnt hnw hc
 ·simp only [casB, casS, hb, pick, Bool.false_and]
  exact ZKb nt nw s.ws hs s.cp s.ms s.ac s.wr t a o v ht ho hnt
theorem ZFz (n : Nat) (st dl : Nat -> Int) (a b : Bool) (t : Nat) (ht : t < n) (hn : n <= 64) : ZAE Tryz.prog 216 (ZBN n st dl a b) 2 [.l (.p 0 0 0 0), .l (.v (.int .i64 t))] fun x h k => x = ZAR true /\ k = 2 /\ h = ZBN n st dl a b := by
 refine sE Tryz.func216 ic216_eq [.t 4] fun G hP hA => ?_
 unfold evF ic216
 conv => whnf
 (repeat' (first | (refine ZAH ?_; conv => whnf) | (refine dsplit (fun _ => ?_) (fun _ => ?_) <;> conv => whnf)))
 all_goals first | (exfalso; omega) | skip
 refine fB ?_
 simp; omega
theorem ZJ1 (n : Nat) (st dl : Nat -> Int) (a b : Bool) (t : Nat) (ht : t < n) (hn : n <= 64) : ZAE Tryz.prog 212 (ZBN n st dl a b) 2 [.l (.p 0 0 0 0), .l (.v (.int .i64 t))] fun x h k => x = sInt .i64 (st t) /\ k = 2 /\ h = ZBN n st dl a b := by
 have hth := ZFz n st dl a b t ht hn
 have hnt' : nadd 0 ((t : Int)).toNat = t := by simp [ZAO]
 refine sE Tryz.func212 ic212_eq [.t 4] fun G hP hA => ?_
 unfold evF ic212
 conv => whnf
 refine cA (hth) ?_
 refine zP ?_
 rw [hnt']
 exact fA
theorem ZAy (n : Nat) (st dl : Nat -> Int) (a b : Bool) (t : Nat) (ht : t < n) (hn : n <= 64) : ZAE Tryz.prog 212 [(0, some (ZBr n st dl a b))] 1 [.l (.p 0 0 0 0), .l (.v (.int .i64 t))] fun x h k => x = sInt .i64 (st t) /\ k = 1 /\ h = [(0, some (ZBr n st dl a b))] := by
 have hth := ZFz n st dl a b t ht hn
 have hnt' : nadd 0 ((t : Int)).toNat = t := by simp [ZAO]
 refine sG (ZAV (ZBN n st dl a b) 2 0 (by omega)) Tryz.func212 ic212_eq [.t 4] fun G hP hA => ?_
 unfold evF ic212
 conv => whnf
 refine cA (hth) ?_
 refine zP ?_
 rw [hnt']
 (refine ZAD (H := (ZBN n st dl a b)) (np := 2) 0 0 (Nat.le_of_ble_eq_true rfl) ?_; conv => whnf); (refine zK ?_)
 exact fA
theorem updB (f : Nat -> Bool) (i : Nat) (v : Bool) (j : Nat) : mrgL (j = i) (ZAI (ZIa f j) 0 [.bool v]) (ZIa f j) = ZIa (fun j => if j = i then v else f j) j := by
 simp only [ZIa, ZAI, setL, mrgL, ZA0]
 by_cases h : j = i <;> simp [h]
def ZSg (n nw : Nat) (nx ow : Int) (st dl nu : Nat -> Int) (dr : Nat -> Bool) (X : Ent) : Heap := (1, some X) :: ZBt n nx ow st dl nu dr
theorem updS (f g : Nat -> Int) (i : Nat) (u v : Int) (j : Nat) : mrgL (j = i) (ZAI (ZFl f g j) 0 [.int .i64 u, .int .i64 v]) (ZFl f g j) = ZFl (updF f i u) (updF g i v) j := by
 simp only [ZFl, updF, ZAI, setL, mrgL, ZA0]
 by_cases h : j = i <;> simp [h]
def stV (n : Nat) (st : Nat -> Int) (t : Int) : Int := pick (inW n t) (st t.toNat) 0
def dlV (n : Nat) (dl : Nat -> Int) (t : Int) : Int := pick (inW n t) (dl t.toNat) (-1)
theorem ZCX (n : Nat) (st dl : Nat -> Int) (a b : Bool) (t : Int) : ZAE Tryz.prog 216 (ZBN n st dl a b) 2 [.l (.p 0 0 0 0), .l (.v (.int .i64 t))] fun x h k => x = ZAR (inW n t) /\ k = 2 /\ h = ZBN n st dl a b := by
 refine sE Tryz.func216 ic216_eq [.t 4] fun G hP hA => ?_
 unfold evF ic216
 conv => whnf
 (repeat' (first | (refine ZAH ?_; conv => whnf) | (refine dsplit (fun _ => ?_) (fun _ => ?_) <;> conv => whnf)))
 ·refine fB ?_
  simp only [inW]; simp; omega
 ·refine fB ?_
  simp only [inW]; simp; omega
theorem ZAh (n : Nat) (st dl : Nat -> Int) (a b : Bool) (t : Int) : ZAE Tryz.prog 212 [(0, some (ZBr n st dl a b))] 1 [.l (.p 0 0 0 0), .l (.v (.int .i64 t))] fun x h k => x = sInt .i64 (stV n st t) /\ k = 1 /\ h = [(0, some (ZBr n st dl a b))] := by
 have hth := ZCX n st dl a b t
 refine sG (ZAV (ZBN n st dl a b) 2 0 (by omega)) Tryz.func212 ic212_eq [.t 4] fun G hP hA => ?_
 unfold evF ic212 stV
 rcases ZAY n t with ⟨hb, i, hi, rfl⟩ | ⟨hb, ho⟩
 ·rw [hb] at hth ⊢
  conv => whnf
  refine cA (hth) ?_
  refine zP ?_
  rw [natI]
  (refine ZAD (H := (ZBN n st dl a b)) (np := 2) 0 0 (Nat.le_of_ble_eq_true rfl) ?_; conv => whnf); (refine zK ?_)
  exact fA
 ·rw [hb] at hth ⊢
  conv => whnf
  refine cA (hth) ?_
  (refine ZAD (H := (ZBN n st dl a b)) (np := 2) 0 0 (Nat.le_of_ble_eq_true rfl) ?_; conv => whnf); (refine zK ?_)
  exact fA
theorem ZF6 (n : Nat) (st dl : Nat -> Int) (a b : Bool) (t : Int) : ZAE Tryz.prog 254 [(0, some (ZBr n st dl a b))] 1 [.l (.p 0 0 0 0), .l (.v (.int .i64 t))] fun x h k => x = sInt .i64 (dlV n dl t) /\ k = 1 /\ h = [(0, some (ZBr n st dl a b))] := by
 have hth := ZCX n st dl a b t
 refine sG (ZAV (ZBN n st dl a b) 2 0 (by omega)) Tryz.func254 ic254_eq [.t 4] fun G hP hA => ?_
 unfold evF ic254 dlV
 rcases ZAY n t with ⟨hb, i, hi, rfl⟩ | ⟨hb, ho⟩
 ·rw [hb] at hth ⊢
  conv => whnf
  refine cA (hth) ?_
  refine zP ?_
  rw [natI]
  (refine ZAD (H := (ZBN n st dl a b)) (np := 2) 0 0 (Nat.le_of_ble_eq_true rfl) ?_; conv => whnf); (refine zK ?_)
  exact fA
 ·rw [hb] at hth ⊢
  conv => whnf
  refine cA (hth) ?_
  (refine ZAD (H := (ZBN n st dl a b)) (np := 2) 0 0 (Nat.le_of_ble_eq_true rfl) ?_; conv => whnf); (refine zK ?_)
  exact fA
def ZCP (s e : Int) : Int :=
 pick (decide (s = 1) && decide (e = 1)) 2 (pick (decide (s = 1) && (decide (e = 2) || decide (e = 6))) 0 (pick (decide (s = 3) && decide (e = 3)) 0 (pick (decide (s = 4) && (decide (e = 4) || decide (e = 5))) 2 (-1))))
theorem ZLn (s e : Int) : ZAE Tryz.prog 225 [] 0 [.l (.v (.int .i64 s)), .l (.v (.int .i64 e))] fun x h k => x = sInt .i64 (ZCP s e) /\ k = 0 /\ h = [] := by
 refine sE Tryz.func225 ic225_eq [.t 4] fun G hP hA => ?_
 unfold evF ic225
 conv => whnf
 (repeat' (first | (refine ZAH ?_; conv => whnf) | (refine dsplit (fun _ => ?_) (fun _ => ?_) <;> conv => whnf)))
 all_goals (refine fI ?_)
 all_goals (simp_all [ZCP, pick]; try omega)
def enSt (st : Nat -> Int) (t : Nat) (e : Int) : Nat -> Int := pick (decide (ZCP (st t) e < 0)) st (updF st t (ZCP (st t) e))
def enDl (st dl : Nat -> Int) (t : Nat) (e : Int) : Nat -> Int := pick (decide (ZCP (st t) e < 0)) dl (updF dl t (-1))
def enB (st : Nat -> Int) (t : Nat) (e : Int) : Bool := !decide (ZCP (st t) e < 0)
theorem ZAQ (n : Nat) (st dl : Nat -> Int) (a b : Bool) (t : Nat) (e : Int) (ht : t < n) (hn : n <= 64) : ZAE Tryz.prog 221 [(0, some (ZBr n st dl a b))] 1 [.l (.p 0 0 0 0), .l (.v (.int .i64 t)), .l (.v (.int .i64 e))] fun x h k => x = ZAR (enB st t e) /\ k = 1 /\ h = [(0, some (ZBr n (enSt st t e) (enDl st dl t e) a b))] := by
 have hst := ZJ1 n st dl a b t ht hn
 have hne := ZLn (st t) e
 refine sG (ZAV (ZBN n st dl a b) 2 0 (by omega)) Tryz.func221 ic221_eq [.t 6] fun G hP hA => ?_
 unfold evF ic221 enB enSt enDl
 by_cases hz : ZCP (st t) e < 0
 ·simp only [hz, decide_true, pick]
  conv => whnf
  refine cA (hst) ?_
  refine cA (hne) ?_
  refine dsplit (fun hq => ?_) (fun hq => absurd hz hq)
  conv => whnf
  (refine ZAD (H := (ZBN n st dl a b)) (np := 2) 0 0 (Nat.le_of_ble_eq_true rfl) ?_; conv => whnf); (refine zK ?_)
  exact fA
 ·simp only [hz, decide_false, pick]
  conv => whnf
  refine cA (hst) ?_
  refine cA (hne) ?_
  refine dsplit (fun hq => absurd hq hz) (fun hq => ?_)
  conv => whnf
  refine zP ?_
  rw [natI]
  (refine ZAD (H := (ZBN n (updF st t (ZCP (st t) e)) (updF dl t (-1)) a b)) (np := 2) 0 0 (Nat.le_of_ble_eq_true rfl) ?_; conv => whnf); (refine ⟨⟨rfl, by omega, rfl, rfl, ?_, rfl⟩, ?_⟩)
  ·exact ⟨rfl, ⟨rfl, rfl, fun j hj => updS st dl t (ZCP (st t) e) (-1) j⟩, trivial⟩
  conv => whnf
  exact fA
theorem ZCG (n : Nat) (st dl : Nat -> Int) (a b : Bool) (t : Int) (ho : inW n t = false) : ZAE Tryz.prog 221 [(0, some (ZBr n st dl a b))] 1 [.l (.p 0 0 0 0), .l (.v (.int .i64 t)), .l (.v (.int .i64 0))] fun x h k => x = ZAR false /\ k = 1 /\ h = [(0, some (ZBr n st dl a b))] := by
 have hst := ZAh n st dl a b t
 simp only [stV, ho, pick] at hst
 have hne := ZLn 0 0
 simp [ZCP, pick] at hne
 refine sE Tryz.func221 ic221_eq [.t 6] fun G hP hA => ?_
 unfold evF ic221
 conv => whnf
 refine cA (hst) ?_
 refine cA (hne) ?_
 exact fA
def lkE (n : Nat) (st : Nat -> Int) (tm : Bool) (t d : Int) : Int := pick (!inW n t || decide (d < -1) || (decide (0 <= d) && !tm)) 1 (pick (decide (st t.toNat = 0)) 0 2)
def lkSt (n : Nat) (st : Nat -> Int) (tm : Bool) (t d : Int) : Nat -> Int := pick (decide (lkE n st tm t d = 0)) (updF st t.toNat 1) st
def lkDl (n : Nat) (st dl : Nat -> Int) (tm : Bool) (t d : Int) : Nat -> Int := pick (decide (lkE n st tm t d = 0)) (updF dl t.toNat d) dl
def hoE (n : Nat) (st : Nat -> Int) (t : Int) : Int := pick (!inW n t) 1 (pick (decide (st t.toNat = 0)) 3 (pick (decide (st t.toNat = 2)) 0 2))
def ulSt (n : Nat) (st : Nat -> Int) (t v : Int) : Nat -> Int := pick (decide (hoE n st t = 0)) (updF st t.toNat v) st
theorem ZSV {n : Nat} {st : Nat -> Int} {tm : Bool} {t d : Int} (h : lkE n st tm t d = 0) : inW n t = true /\ -1 <= d /\ (0 <= d -> tm = true) /\ st t.toNat = 0 := by
 simp only [lkE] at h
 cases h1 : inW n t <;> simp [h1, pick] at h
 by_cases h2 : d < -1 <;> simp [h2] at h
 by_cases h3 : 0 <= d <;> cases tm <;> simp [h3] at h <;> by_cases h4 : st t.toNat = 0 <;> simp [h4] at h <;> (refine ⟨rfl, by omega, fun _ => ?_, h4⟩ <;> first | rfl | (exfalso; omega))
theorem ZR1 {n : Nat} {st : Nat -> Int} {t : Int} (h : hoE n st t = 0) : inW n t = true /\ st t.toNat = 2 := by
 simp only [hoE] at h
 cases h1 : inW n t <;> simp [h1, pick] at h
 by_cases h2 : st t.toNat = 0 <;> simp [h2] at h
 by_cases h3 : st t.toNat = 2 <;> simp [h3] at h
 exact ⟨rfl, h3⟩
structure SS where
 st : Nat -> Int
 dl : Nat -> Int
structure Dd where
 e : Int
 q : Bool
 a : Bool
 l : Bool
def didO (d : Dd) : SV := .o (.a [.v (.int .i64 d.e), .v (.bool d.q), .v (.bool d.a), .v (.bool d.l)])
def evD (e : Int) : Dd := ⟨e, false, false, false⟩
def enSS (ss : SS) (t : Nat) (e : Int) : SS := ⟨enSt ss.st t e, enDl ss.st ss.dl t e⟩
def ZKc (f : Nat -> Bool) (i : Nat) (v : Bool) : Nat -> Bool := fun j => if j = i then v else f j
structure FL where
 ss : SS
 nu : Nat -> Int
 dr : Nat -> Bool
def ZJI (n nt nw : Nat) (nx ow : Int) (hs : Nat -> Int) (L : FL) (s : PS) : Heap := ZSg n nw nx ow L.ss.st L.ss.dl L.nu L.dr (ZBC nt nw hs s)
def u32p (x : Int) : Int := IntKind.u32.wrap (x + 1)
def flLk (nw : Nat) (nx ow : Int) (t ta : Nat) (L : FL) (s : PS) : Dd × FL × PS :=
 match L.dr t with
 | false => (⟨0, true, false, false⟩, ⟨L.ss, updF L.nu t (adV nw nx 1 s), ZKc L.dr t true⟩, adS nw ta nx 1 s)
 | true => (evD (pick (decide (rdV nw ow s = L.nu t)) 1 0), L, rdS nw ta ow s)
def ZDI (nw : Nat) (nx ow : Int) (t ta : Nat) (L : FL) (s : PS) : Dd × FL × PS :=
 pick (decide (L.ss.st t = 1)) (flLk nw nx ow t ta L s) (pick (decide (L.ss.st t = 3)) (evD 3, ⟨L.ss, L.nu, ZKc L.dr t false⟩, wtS nw ta ow (u32p (L.nu t)) s)
  (pick (decide (L.ss.st t = 4)) (evD (pick (decide (rdV nw nx s = u32p (L.nu t))) 4 5), L, rdS nw ta nx s) (evD 0, L, s)))
def ZF7 (t : Nat) (r : Dd × FL × PS) : Dd × FL × PS := (r.1, ⟨enSS r.2.1.ss t r.1.e, r.2.1.nu, r.2.1.dr⟩, r.2.2)
def ZBX (n nw : Nat) (nx ow : Int) (t : Int) (ta : Nat) (L : FL) (s : PS) : Dd × FL × PS :=
 match inW n t with | true => ZF7 t.toNat (ZDI nw nx ow t.toNat ta L s) | false => (evD 0, L, s)
theorem ZNg (n nt nw t ta : Nat) (nx ow : Int) (hs : Nat -> Int) (L : FL) (s : PS) (ht : t < n) (hta : ta < nt) (hnt : nt <= 64) (hn : n <= 64) (hnw : nw <= 4096) :
  ZAE Tryz.prog 218 (ZJI n nt nw nx ow hs L s) 5 [.l (.p 0 0 0 0), .l (.v (.int .i64 t)), .l (.v (.int .i64 ta))] fun x h k =>
   x = didO (flLk nw nx ow t ta L s).1 /\ k = 5 /\ h = ZJI n nt nw nx ow hs (flLk nw nx ow t ta L s).2.1 (flLk nw nx ow t ta L s).2.2 := by
 have hpa := adSp nt nw hs s ta nx 1 hta hnt hnw
 have hpl := ldS nt nw hs s ta ow hta hnt hnw
 refine sE Tryz.func218 ic218_eq [.ca 6 4] fun G hP hA => ?_
 unfold evF ic218 flLk
 cases hd : L.dr t with
 | false =>
  simp only [hd]
  conv => whnf
  refine zP ?_
  rw [natI, hd]
  conv => whnf
  refine zD ?_
  refine cA (hpa) ?_
  refine zP ?_
  refine zO ?_
  rw [natI]
  refine fQ ?_ ?_
  ·rfl
  ·exact ⟨ZAB, rfl, ZAB, ⟨rfl, rfl, fun j hj => updE L.nu t _ j⟩, ⟨rfl, rfl, fun j hj => updB L.dr t true j⟩, trivial⟩
 | true =>
  simp only [hd]
  conv => whnf
  refine zP ?_
  rw [natI, hd]
  conv => whnf
  refine zD ?_
  refine cA (hpl) ?_
  refine zP ?_
  refine zO ?_
  rw [natI]
  refine dsplit (fun hq => ?_) (fun hq => ?_)
  ·simp only [hq, decide_true, pick]
   conv => whnf
   exact fA
  ·simp only [hq, decide_false, pick]
   conv => whnf
   exact fA
theorem ZNh (n nt nw t ta : Nat) (nx ow now : Int) (hs : Nat -> Int) (L : FL) (s : PS) (ht : t < n) (hta : ta < nt) (hnt : nt <= 64) (hn : n <= 64) (hnw : nw <= 4096) :
  ZAE Tryz.prog 213 (ZJI n nt nw nx ow hs L s) 5 [.l (.p 0 0 0 0), .l (.v (.int .i64 t)), .l (.v (.int .i64 ta)), .l (.v (.int .i64 now))] fun x h k =>
   x = didO (ZF7 t (ZDI nw nx ow t ta L s)).1 /\ k = 5 /\ h = ZJI n nt nw nx ow hs (ZF7 t (ZDI nw nx ow t ta L s)).2.1 (ZF7 t (ZDI nw nx ow t ta L s)).2.2 := by
 have hst := ZAy n L.ss.st L.ss.dl false true t ht hn
 have hlk := ZNg n nt nw t ta nx ow hs L s ht hta hnt hn hnw
 refine sE Tryz.func213 ic213_eq [.ca 8 4] fun G hP hA => ?_
 unfold evF ic213 ZDI ZF7
 by_cases h1 : L.ss.st t = 1
 ·rw [h1] at hst
  simp only [h1, decide_true, pick]
  generalize flLk nw nx ow t ta L s = r at hlk ⊢
  have hen := ZAQ n r.2.1.ss.st r.2.1.ss.dl false true t r.1.e ht hn
  conv => whnf
  refine zJ ?_
  conv => whnf
  refine cA (hst) ?_
  refine cA (hlk) ?_
  refine zD ?_
  refine cA (hen) ?_
  refine zO ?_
  conv => whnf
  exact fA
 by_cases h3 : L.ss.st t = 3
 ·rw [h3] at hst
  simp only [Int.reduceEq, h3, decide_true, decide_false, pick]
  have hps := stS nt nw hs s ta ow (u32p (L.nu t)) hta hnt hnw
  have hen := ZAQ n L.ss.st L.ss.dl false true t 3 ht hn
  conv => whnf
  refine zJ ?_
  conv => whnf
  refine cA (hst) ?_
  refine zD ?_
  refine zW ?_
  rw [natI]
  refine cA (hps) ?_
  refine zO ?_
  refine zW ?_
  rw [natI]
  refine zD ?_
  refine cA (hen) ?_
  refine zO ?_
  conv => whnf
  refine fQ ?_ ?_
  ·rfl
  ·exact ⟨ZAB, rfl, ZAB, ZAB, ⟨rfl, rfl, fun j hj => updB L.dr t false j⟩, trivial⟩
 by_cases h4 : L.ss.st t = 4
 ·rw [h4] at hst
  simp only [Int.reduceEq, h4, decide_true, decide_false, pick]
  have hpl := ldS nt nw hs s ta nx hta hnt hnw
  have hen := fun e => ZAQ n L.ss.st L.ss.dl false true t e ht hn
  conv => whnf
  refine zJ ?_
  conv => whnf
  refine cA (hst) ?_
  refine zD ?_
  refine cA (hpl) ?_
  refine zW ?_
  rw [natI]
  refine zO ?_
  refine dsplit (fun hq => ?_) (fun hq => ?_)
  ·have hq' : rdV nw nx s = u32p (L.nu t) := hq
   have hen := hen 4
   simp only [hq', decide_true]
   conv => whnf
   refine zD ?_
   refine cA (hen) ?_
   refine zO ?_
   conv => whnf
   exact fA
  ·have hq' : ¬ rdV nw nx s = u32p (L.nu t) := hq
   have hen := hen 5
   simp only [hq', decide_false]
   conv => whnf
   refine zD ?_
   refine cA (hen) ?_
   refine zO ?_
   conv => whnf
   exact fA
 ·have hen := ZAQ n L.ss.st L.ss.dl false true t 0 ht hn
  simp only [h1, h3, h4, decide_false, pick]
  conv => whnf
  refine zJ ?_
  conv => whnf
  refine cA (hst) ?_
  refine dsplit (fun hq => absurd hq h1) (fun _ => ?_)
  conv => whnf
  refine dsplit (fun hq => absurd hq h3) (fun _ => ?_)
  conv => whnf
  refine dsplit (fun hq => absurd hq h4) (fun _ => ?_)
  conv => whnf
  refine zD ?_
  refine cA (hen) ?_
  refine zO ?_
  conv => whnf
  exact fA
theorem ZBV (u : Nat) (j : Nat) (hu : u < 4294967296) (hj : j <= 31) : bitZ .and .u32 (u : Int) ((2 ^ j - 1 : Nat) : Int) = ((u % 2 ^ j : Nat) : Int) := by
 have h2 : 2 ^ j <= 2 ^ 31 := Nat.pow_le_pow_right (by omega) hj
 have h3 : u % 2 ^ j < 2 ^ j := Nat.mod_lt _ (Nat.two_pow_pos j)
 have e1 : (BitVec.ofInt 32 (u : Int) &&& BitVec.ofInt 32 ((2 ^ j - 1 : Nat) : Int)).toNat = u % 2 ^ j := by
  rw [BitVec.toNat_and, BitVec.ofInt_natCast, BitVec.ofInt_natCast, BitVec.toNat_ofNat, BitVec.toNat_ofNat, Nat.mod_eq_of_lt (by omega : u < 2 ^ 32), Nat.mod_eq_of_lt (by omega : 2 ^ j - 1 < 2 ^ 32)]
  exact Nat.and_two_pow_sub_one_eq_mod u j
 show IntKind.wrap .u32 ((BitVec.ofInt 32 (u : Int) &&& BitVec.ofInt 32 ((2 ^ j - 1 : Nat) : Int)).toNat : Int) = _
 rw [e1]
 generalize u % 2 ^ j = r at *
 have h4 : r < 2147483648 := Nat.lt_of_lt_of_le h3 h2
 clear e1 h3 h2
 simp [IntKind.wrap, IntKind.signed, IntKind.bits]
 omega
def ZBW (n : Nat) : Prop := n = 1 \/ n = 2 \/ n = 4 \/ n = 8 \/ n = 16 \/ n = 32 \/ n = 64
theorem ZOg (u n : Nat) (hu : u < 4294967296) (hn : ZBW n) :
  ZAE Tryz.prog 133 [] 0 [.l (.v (.int .u32 u)), .l (.v (.int .i64 n))] fun x h k => x = sInt .i64 ((u % n : Nat) : Int) /\ k = 0 /\ h = [] := by
 have e0 : bitZ .and .u32 (u : Int) (((1 : Nat) : Int) - 1) = ((u % 1 : Nat) : Int) := ZBV u 0 hu (by omega)
 have b0 : -9223372036854775808 <= bitZ .and .u32 (u : Int) (((1 : Nat) : Int) - 1) /\ bitZ .and .u32 (u : Int) (((1 : Nat) : Int) - 1) <= 9223372036854775807 := by rw [e0]; omega
 have e1 : bitZ .and .u32 (u : Int) (((2 : Nat) : Int) - 1) = ((u % 2 : Nat) : Int) := ZBV u 1 hu (by omega)
 have b1 : -9223372036854775808 <= bitZ .and .u32 (u : Int) (((2 : Nat) : Int) - 1) /\ bitZ .and .u32 (u : Int) (((2 : Nat) : Int) - 1) <= 9223372036854775807 := by rw [e1]; omega
 have e2 : bitZ .and .u32 (u : Int) (((4 : Nat) : Int) - 1) = ((u % 4 : Nat) : Int) := ZBV u 2 hu (by omega)
 have b2 : -9223372036854775808 <= bitZ .and .u32 (u : Int) (((4 : Nat) : Int) - 1) /\ bitZ .and .u32 (u : Int) (((4 : Nat) : Int) - 1) <= 9223372036854775807 := by rw [e2]; omega
 have e3 : bitZ .and .u32 (u : Int) (((8 : Nat) : Int) - 1) = ((u % 8 : Nat) : Int) := ZBV u 3 hu (by omega)
 have b3 : -9223372036854775808 <= bitZ .and .u32 (u : Int) (((8 : Nat) : Int) - 1) /\ bitZ .and .u32 (u : Int) (((8 : Nat) : Int) - 1) <= 9223372036854775807 := by rw [e3]; omega
 have e4 : bitZ .and .u32 (u : Int) (((16 : Nat) : Int) - 1) = ((u % 16 : Nat) : Int) := ZBV u 4 hu (by omega)
 have b4 : -9223372036854775808 <= bitZ .and .u32 (u : Int) (((16 : Nat) : Int) - 1) /\ bitZ .and .u32 (u : Int) (((16 : Nat) : Int) - 1) <= 9223372036854775807 := by rw [e4]; omega
 have e5 : bitZ .and .u32 (u : Int) (((32 : Nat) : Int) - 1) = ((u % 32 : Nat) : Int) := ZBV u 5 hu (by omega)
 have b5 : -9223372036854775808 <= bitZ .and .u32 (u : Int) (((32 : Nat) : Int) - 1) /\ bitZ .and .u32 (u : Int) (((32 : Nat) : Int) - 1) <= 9223372036854775807 := by rw [e5]; omega
 have e6 : bitZ .and .u32 (u : Int) (((64 : Nat) : Int) - 1) = ((u % 64 : Nat) : Int) := ZBV u 6 hu (by omega)
 have b6 : -9223372036854775808 <= bitZ .and .u32 (u : Int) (((64 : Nat) : Int) - 1) /\ bitZ .and .u32 (u : Int) (((64 : Nat) : Int) - 1) <= 9223372036854775807 := by rw [e6]; omega
 refine sE Tryz.func133 ic133_eq [.t 4] fun G hP hA => ?_
 unfold evF ic133
 rcases hn with rfl | rfl | rfl | rfl | rfl | rfl | rfl
 all_goals
  conv => whnf
  refine zP ?_
 ·refine fI ?_
  exact e0
 ·refine fI ?_
  exact e1
 ·refine fI ?_
  exact e2
 ·refine fI ?_
  exact e3
 ·refine fI ?_
  exact e4
 ·refine fI ?_
  exact e5
 ·refine fI ?_
  exact e6
def ZFL (nu stp : Nat -> Int) : Nat -> List Value := fun i => [.int .u32 (nu i), .int .i64 (stp i)]
def ZLA (m : Nat) (tail : Int) (n : Nat) (st dl nu stp : Nat -> Int) : Heap := [(0, some (.st [.p 1 0 0 0, .v (.pointer none), .v (.int .i64 tail), .v (.int .i64 n), .s 2 2 0 m 0])), (1, some (ZBr m st dl false false)), (2, some (.ar 2 m (ZFL nu stp)))]
def ZIc (m : Nat) (tail : Int) (n : Nat) (st dl nu stp : Nat -> Int) : Ent := .ob [] (ZAl (ZLA m tail n st dl nu stp) 3)
def ZA9 (m : Nat) (tail : Int) (n : Nat) (st dl nu stp : Nat -> Int) : Heap := [(0, some (.st [.p 2 0 0 0, .p 1 0 0 0, .v (.int .i64 tail), .v (.int .i64 n), .s 3 2 0 m 0])), (2, some (ZBr m st dl false false)), (3, some (.ar 2 m (ZFL nu stp)))]
def ZGi (u n : Nat) (i : Nat) : Int := if i = u % n then 1 else 0
def ZDj (hs : Nat -> Int) (M : Nat) (h : Nat -> Int) (m n : Nat) : Nat -> Int := ZDZ (ZAr hs M (h 0)) (M + 1) (fun i => h (i % m)) n
def ZDk (ws : Nat -> Int) (M : Nat) (u n : Nat) : Nat -> Int := ZDZ (ZAr ws M u) (M + 1) (ZGi u n) n
theorem ZId (v : Int) : ZAE Tryz.prog 131 [] 0 [.l (.v (.int .i64 v))] fun x h n => x = ZAR (badH v) /\ n = 0 /\ h = [] := by
 refine sE Tryz.func131 ic131_eq [.t 2] fun G hP hA => ?_
 unfold evF ic131
 conv => whnf
 (repeat' (first | (refine ZAH ?_; conv => whnf) | (refine dsplit (fun _ => ?_) (fun _ => ?_) <;> conv => whnf)))
 all_goals ((refine fB ?_); unfold badH; rw [Bool.eq_iff_iff]; simp; omega)
theorem ZOh {a b : Nat} {K : Int -> Prop} (hb : b ≠ 0) (hk : K ((a % b : Nat) : Int)) : RemP (a : Int) (b : Int) K := ⟨⟨by omega, by rw [show (a : Int).tmod (b : Int) = ((a % b : Nat) : Int) from rfl]; exact hk⟩⟩
theorem ZLB (th : Int) (M : Nat) (hs ws h : Nat -> Int) (m n u : Nat) (hM : M <= 10000) (hm : 1 <= m /\ m <= 64) (hb : anyZ badH h m = false) (hu : u < 4294967296) (hn : ZBW n) (hmn : m <= n) :
  ZAE Tryz.prog 106 [(0, some (ZB7 th M hs ws)), (1, some (.ro 1 m (numE h)))] 2 [.l (.p 0 0 0 0), .l (.s 1 1 0 m 0), .l (.v (.int .i64 n)), .l (.v (.int .u32 u))] fun x h' k =>
   x = .t [.l (.p 2 0 0 0), .l (.v (.int .i64 0))] /\ k = 3 /\ h' = [(0, some (ZB7 th (M + 1 + n) (ZDj hs M h m n) (ZDk ws M u n))), (2, some (ZIc m M n (fun _ => 0) (fun _ => -1) (fun _ => 0) fun _ => 0))] := by
 have hn64 : n <= 64 := by unfold ZBW at hn; omega
 have hse := ZDY m false false (by omega)
 have hcf := ZBq 131 badH ZId h m (by omega)
 rw [hb] at hcf
 have hsi := ZM1
 have hct := ZIb (n : Int) sizN 7 (by omega)
 rw [show anyZ (fun x => decide ((n : Int) = x)) sizN 7 = true from by rcases hn with rfl | rfl | rfl | rfl | rfl | rfl | rfl <;> simp [anyZ, sizN]] at hct
 have hw1 := ZBs th M hs ws (h 0) u (by omega)
 have hsl := ZOg u n hu hn
 refine sE Tryz.func106 ic106_eq [.t 8, .t 9] fun G hP hA => ?_
 unfold evF ic106
 conv => whnf
 refine cA (hse) ?_
 refine cA (hcf) ?_
 refine dsplit (fun h1 => absurd h1 (by omega)) (fun _ => ?_)
 conv => whnf
 refine cA (hsi) ?_
 refine cA (hct) ?_
 refine zP ?_
 refine cA (hw1) ?_
 refine zP ?_
 refine ZAg (α := Nat) (ds := []) (N := 6) (fun i => [(54, sInt .i64 (i : Int))]) []
  (fun i => [(0, some (ZB7 th (M + 1 + i) (ZDj hs M h m i) (ZDZ (ZAr ws M u) (M + 1) (ZGi u n) i)))])
  (fun i => i <= n) (fun i => n - i) 0 (Nat.zero_le _) ?_ fun i hi => ?_
 ·exact iA
 ·have hmod : i % m < m := Nat.mod_lt _ (by omega)
  have hni : nadd 0 ((i % m : Nat) : Int).toNat = i % m := by rw [ZAO, Int.toNat_natCast, Nat.add_zero]
  conv => whnf
  refine dsplit (fun h1 => ?_) (fun h1 => ?_)
  ·replace h1 : (i : Int) < (n : Int) := h1
   conv => whnf
   refine zJ ?_
   refine cA (hsl) ?_
   refine dsplit (fun h2 => ?_) (fun h2 => ?_)
   ·replace h2 : (i : Int) = ((u % n : Nat) : Int) := h2
    have hwi := ZBs th (M + 1 + i) (ZDj hs M h m i) (ZDZ (ZAr ws M u) (M + 1) (ZGi u n) i) (h (i % m)) 1 (by omega)
    rw [show ZAr (ZDZ (ZAr ws M u) (M + 1) (ZGi u n) i) (M + 1 + i) 1 = ZDZ (ZAr ws M u) (M + 1) (ZGi u n) (i + 1) from by simp only [ZDZ, ZGi, if_pos (Int.ofNat_inj.1 h2)]] at hwi
    conv => whnf
    refine ZOh (by omega) ?_
    conv => whnf
    refine And.intro (by omega) ?_
    conv => whnf
    refine And.intro (by omega) ?_
    conv => whnf
    rw [hni]
    conv => whnf
    refine cA (hwi) ?_
    refine zP ?_
    refine ⟨i + 1, by omega, by omega, ?_⟩
    exact iA
   ·replace h2 : ¬ (i : Int) = ((u % n : Nat) : Int) := h2
    have hwi := ZBs th (M + 1 + i) (ZDj hs M h m i) (ZDZ (ZAr ws M u) (M + 1) (ZGi u n) i) (h (i % m)) 0 (by omega)
    rw [show ZAr (ZDZ (ZAr ws M u) (M + 1) (ZGi u n) i) (M + 1 + i) 0 = ZDZ (ZAr ws M u) (M + 1) (ZGi u n) (i + 1) from by simp only [ZDZ, ZGi, if_neg (fun hh => h2 (congrArg Int.ofNat hh))]] at hwi
    conv => whnf
    refine ZOh (by omega) ?_
    conv => whnf
    refine And.intro (by omega) ?_
    conv => whnf
    refine And.intro (by omega) ?_
    conv => whnf
    rw [hni]
    conv => whnf
    refine cA (hwi) ?_
    refine zP ?_
    refine ⟨i + 1, by omega, by omega, ?_⟩
    exact iA
  ·replace h1 : ¬ (i : Int) < (n : Int) := h1
   obtain rfl : i = n := by omega
   conv => whnf
   (refine ZAD (H := (ZLA m M i (fun _ => 0) (fun _ => -1) (fun _ => 0) fun _ => 0)) (np := 3) 5 0 (Nat.le_of_ble_eq_true rfl) ?_; conv => whnf); (refine zK ?_)
   exact fA
def rowE (E j : Nat) : Nat -> List Value := fun q => [.int .i64 ((j : Int) * E + q + 1)]
def ZLC (a : Nat) (val : Nat -> Value) : Nat -> Value := fun j => if j < a then val j else .slice none 0 0
def outN (T E : Nat) : Nat := (1 + (T : Int) * (E : Int)).toNat
def ZSC (T E : Nat) (val : Nat -> Value) : Heap := [(0, some (.st [.s 1 1 0 T 0, .s 2 1 0 (outN T E) 0])), (1, some (.hl T (ZLC (T - 1) val) (T - 1) (.s 3 1 0 E 0))), (2, some (.ar 1 (outN T E) (ZIa fun _ => false))), (3, some (.ar 1 E (rowE E (T - 1)))), (4, some (.ob [] (ZEw E (rowE E) (T - 1) val)))]
def ZQ8 (T E : Nat) : List Go.Sx.Loc -> Go.Sx.Loc -> List Nat -> World -> Prop := fun ls l F w => ∃ val, ZAl (ZSC T E val) 5 ls l F w
def ZQ9 (T E : Nat) : Ent := .ob [] (ZQ8 T E)
theorem ZJq (T E : Nat) (ls : List Go.Sx.Loc) : ZDb (ZQ8 T E ls) := fun l F w w' ⟨val, h⟩ hw => ⟨val, ZB3 _ _ _ l F w w' h hw⟩
theorem ZSD {i E a : Nat} {K : Int -> Prop} (hE : E ≠ 0) (hi : i / E = a) (hs : a < 1000000) (hk : K (a : Int)) : QuoP .i64 (i : Int) (E : Int) K := by
 refine ⟨⟨by omega, ?_⟩⟩
 rw [show (i : Int).tdiv (E : Int) = ((i / E : Nat) : Int) from rfl, hi, ZG2 (k := .i64) (show (-9223372036854775808 : Int) <= _ by omega) (show _ <= (9223372036854775807 : Int) by omega)]
 exact hk
theorem ZSE {E a b i : Nat} (hE : 1 <= E) (hb : b < E) (hi : i = a * E + b) : i / E = a := by
 subst hi
 rw [Nat.mul_comm, Nat.mul_add_div (by omega), Nat.div_eq_of_lt hb, Nat.add_zero]
theorem ZPz {E a b i T : Nat} (hi : i = a * E + b) (ha : a + 1 = T) (h : i + 1 < T * E) : b + 1 < E := by
 subst ha hi
 rw [Nat.add_mul] at h
 omega
theorem ZM2 (T E : Nat) (hT : 1 <= T /\ T <= 64) (hE : 1 <= E /\ E <= 8) : ZAE Tryz.prog 138 [] 0 [.l (.v (.int .i64 T)), .l (.v (.int .i64 E))] fun x h k =>
  x = .t [.l (.p 0 0 0 0), .l (.v (.int .i64 0))] /\ k = 1 /\ h = [(0, some (ZQ9 T E))] := by
 have hTE : (T : Int) * (E : Int) = ((T * E : Nat) : Int) := (Int.natCast_mul T E).symm
 have hTE2 : T * E <= 64 * 8 := Nat.mul_le_mul hT.2 hE.2
 have hTE3 : 0 <= (T : Int) * (E : Int) /\ (T : Int) * (E : Int) <= 512 := by rw [hTE]; omega
 refine sE Tryz.func138 ic138_eq [.t 4, .t 5] fun G hP hA => ?_
 unfold evF ic138
 conv => whnf
 refine dsplit (fun h => absurd h (by omega)) (fun _ => ?_)
 conv => whnf
 refine dsplit (fun h => absurd h (by omega)) (fun _ => ?_)
 conv => whnf
 refine dsplit (fun h => absurd h (by omega)) (fun _ => ?_)
 conv => whnf
 refine dsplit (fun h => absurd h (by omega)) (fun _ => ?_)
 conv => whnf
 (refine ZCk (by rw [hP]; exact follows) 60 (by kernel_rfl) ?_; conv => whnf)
 repeat' (first | (refine And.intro (by first | omega | (simp [ZAO]; omega)) ?_; conv => whnf) | (refine ZRn (by omega) (by omega) ?_; conv => whnf) | (refine And.intro ?_ ?_ <;> (conv => whnf)))
 all_goals refine zP ?_
 all_goals
  refine ZRm (α := Nat × Nat × Nat × (Nat -> Value)) (ds := [22, 23, 24, 25, 26, 27, 28, 29, 30]) (N := 5) (fun x => [(34, sInt .i64 (x.1 : Int)), (6, .o (.l (.p 2 0 0 0)))]) []
   (fun x => [(2, some (.st [.s 0 1 0 T 0, .s 1 1 0 (outN T E) 0])), (0, some (.hl T (ZLC x.2.1 x.2.2.2) x.2.1 (.s 3 1 0 x.2.2.1 0))), (1, some (.ar 1 (outN T E) (ZIa fun _ => false))), (3, some (.ar 1 x.2.2.1 (rowE E x.2.1))), (4, some (.ob [] (ZEw E (rowE E) x.2.1 x.2.2.2)))])
   (fun x => (x.1 = x.2.1 * E + x.2.2.1 /\ x.2.1 < T) /\ (x.2.2.1 <= E /\ x.1 <= T * E) /\ (x.1 < T * E -> x.2.2.1 < E)) (fun x => T * E - x.1) (0, 0, 0, fun _ => .bool false) ⟨⟨by simp, show 0 < T by omega⟩, ⟨show 0 <= E by omega, show 0 <= T * E by omega⟩, fun _ => show 0 < E by omega⟩ ?_ ?_
  ·conv => whnf
   first
    | (refine Imp.trans (ZFW ((ZAW.tohl 0 0 (fun _ => .slice none 0 0) (.slice none 0 0) (m := T) (f := fun _ => [.slice none 0 0]) rfl (by omega) (fun j hj => by split <;> rfl)).trans ((ZAW.nilh 0 1 (rowE E 0) rfl).trans (ZAW.nothing (ZEw E (rowE E) 0 fun _ => .bool false) (ZB4 _ _ _ _ _) (ZHt _ _ _))))) ?_; refine ZEF hA [0, 1, 2, 3, 4] rfl rfl rfl ZJ2 ?_ rfl)
    | (refine Imp.trans (ZFW ((ZAW.tohl 1 0 (fun _ => .slice none 0 0) (.slice none 0 0) (m := T) (f := fun _ => [.slice none 0 0]) rfl (by omega) (fun j hj => by split <;> rfl)).trans ((ZAW.nilh 1 1 (rowE E 0) rfl).trans (ZAW.nothing (ZEw E (rowE E) 0 fun _ => .bool false) (ZB4 _ _ _ _ _) (ZHt _ _ _))))) ?_; refine ZEF hA [1, 0, 2, 3, 4] rfl rfl rfl ZJ2 ?_ rfl)
   all_goals exact ⟨rfl, ⟨rfl, rfl, rfl, fun j hj => by simp [ZLC]⟩, ⟨rfl, rfl, fun _ _ => rfl⟩, ⟨rfl, rfl, fun _ _ => rfl⟩, ⟨rfl, .inl rfl⟩, trivial⟩
  ·intro x hx
   obtain ⟨i, a, b, val⟩ := x
   obtain ⟨⟨hi, ha⟩, ⟨hb, hiT⟩, hlt⟩ := hx
   replace hi : i = a * E + b := hi
   replace ha : a < T := ha
   replace hb : b <= E := hb
   replace hiT : i <= T * E := hiT
   replace hlt : i < T * E -> b < E := hlt
   conv => whnf
   refine dsplit (fun h1 => ?_) (fun h1 => ?_)
   ·replace h1 : (i : Int) < (T : Int) * (E : Int) := h1
    have h2 : i < T * E := by rw [hTE] at h1; exact Int.ofNat_lt.1 h1
    have hbE := hlt h2
    have hq := ZSE hE.1 hbE hi
    have hna : nadd 0 ((a : Nat) : Int).toNat = a := by simp [ZAO]
    have hE0 : E ≠ 0 := by omega
    have ha6 : a < 1000000 := by omega
    have hi6 : i <= 512 := by omega
    conv => whnf
    (refine ZCk (by rw [hP]; exact follows) 60 (by kernel_rfl) ?_; conv => whnf)
    repeat' (first | (refine ZSD hE0 hq ha6 ?_; conv => whnf) | (refine And.intro (by first | omega | (simp [ZAO]; omega)) ?_; conv => whnf) | (refine ZRn (by omega) (by omega) ?_; conv => whnf) | (refine And.intro ?_ ?_ <;> (conv => whnf)))
    all_goals
     intro act aw hs
     by_cases hb1 : b + 1 < E \/ a + 1 = T
     ·refine ⟨(i + 1, a, b + 1, val), ⟨⟨show i + 1 = a * E + (b + 1) by omega, ha⟩, ⟨hbE, h2⟩, fun hlt2 => ?_⟩, show T * E - (i + 1) < T * E - i by omega, ?_⟩
      ·rcases hb1 with hb1 | hb1
       ·exact hb1
       ·exact ZPz hi hb1 hlt2
      ·conv => whnf
       refine ZME hs ?_
       refine ZEF hA [0, 1, 2, 6, 4] rfl rfl rfl ZJ2 ?_ rfl
       exact ⟨rfl, ⟨rfl, rfl, rfl, fun _ _ => rfl⟩, ⟨rfl, rfl, fun _ _ => rfl⟩, ⟨rfl, rfl, fun j hj => ZCE (f := rowE E a) (i := b) (by show [Value.int .i64 ((i : Int) + 1)] = [Value.int .i64 ((a : Int) * E + b + 1)]; rw [hi]; simp) j hj⟩, ⟨rfl, .inl rfl⟩, trivial⟩
     ·have hbE2 : b + 1 = E := by omega
      have ha1 : a + 1 < T := by omega
      subst hbE2
      obtain ⟨v, hs2⟩ := ZO5 (k0 := 0) (k := 6) (kz := 4) (E := b + 1) (a := a) (row := rowE (b + 1)) hs rfl rfl rfl (by decide) (by decide) (by decide) (fun j hj => ZCE (f := rowE (b + 1) a) (i := b) (by show [Value.int .i64 ((i : Int) + 1)] = [Value.int .i64 ((a : Int) * ((b + 1 : Nat) : Int) + b + 1)]; rw [hi]; simp) j hj)
      refine ⟨(i + 1, a + 1, 0, fun j => if j = a then v else val j), ⟨⟨show i + 1 = (a + 1) * (b + 1) + 0 by rw [Nat.add_mul]; omega, ha1⟩, ⟨Nat.zero_le _, h2⟩, fun _ => Nat.succ_pos b⟩, show T * (b + 1) - (i + 1) < T * (b + 1) - i by omega, ?_⟩
      conv => whnf
      refine ZME hs2 ?_
      refine Imp.trans (ZFW ((ZAW.hole 0 (a + 1) (ZLC (a + 1) fun j => if j = a then v else val j) (.slice none 0 0) rfl ha1 (fun j hj => ?_)).trans (ZAW.nilh 0 1 (rowE (b + 1) (a + 1)) rfl))) ?_
      ·simp only [ZLC]
       by_cases e1 : j = a
       ·subst e1; rw [if_pos rfl, if_neg (by omega), if_pos (by omega), if_pos rfl]
       ·by_cases e2 : j = a + 1
        ·subst e2; rw [if_neg (by omega), if_pos rfl, if_neg (by omega)]
        ·by_cases e3 : j < a
         ·simp only [if_neg e1, if_neg e2, if_pos e3, if_pos (show j < a + 1 by omega)]
         ·simp only [if_neg e1, if_neg e2, if_neg e3, if_neg (show ¬ j < a + 1 by omega)]
      ·refine ZEF hA [0, 1, 2, 7, 4] rfl rfl rfl ZJ2 ?_ rfl
       exact ⟨rfl, ⟨rfl, rfl, rfl, fun _ _ => rfl⟩, ⟨rfl, rfl, fun _ _ => rfl⟩, ⟨rfl, rfl, fun _ _ => rfl⟩, ⟨rfl, .inl rfl⟩, trivial⟩
   ·replace h1 : ¬ (i : Int) < (T : Int) * (E : Int) := h1
    have h2 : i = T * E := by rw [hTE] at h1; omega
    have h3 : (a + 1) * E <= T * E := Nat.mul_le_mul_right _ ha
    rw [Nat.add_mul] at h3
    obtain rfl : b = E := by omega
    have h4 : (a + 1) * b = T * b := by rw [Nat.add_mul]; omega
    obtain rfl : a + 1 = T := Nat.eq_of_mul_eq_mul_right (by omega) h4
    conv => whnf
    refine ZBH (ZDF [2, 0, 1, 3, 4] (H := ZSC (a + 1) b val) (np := 5) 0 rfl (by decide) rfl rfl ?_ rfl) (Nat.zero_le _) ?_
    ·exact ⟨rfl, ⟨rfl, rfl, rfl, fun _ _ => rfl⟩, ⟨rfl, rfl, fun _ _ => rfl⟩, ⟨rfl, rfl, fun _ _ => rfl⟩, ⟨rfl, .inl rfl⟩, trivial⟩
    ·refine fQ ?_ ?_
     ·rfl
     ·exact ⟨⟨rfl, .inr ⟨fun ls => ZJq _ _ _, fun ls l F w hh => ⟨val, hh⟩⟩⟩, trivial⟩
theorem ZIe (v : Int) : ZAE Tryz.prog 137 [] 0 [.l (.v (.int .i64 v))] fun x h n => x = ZAR (badH v) /\ n = 0 /\ h = [] := by
 refine sE Tryz.func137 ic137_eq [.t 2] fun G hP hA => ?_
 unfold evF ic137
 conv => whnf
 (repeat' (first | (refine ZAH ?_; conv => whnf) | (refine dsplit (fun _ => ?_) (fun _ => ?_) <;> conv => whnf)))
 all_goals ((refine fB ?_); unfold badH; rw [Bool.eq_iff_iff]; simp; omega)
def ZBc (stp tr no ot : Nat -> Int) : Nat -> List Value := fun i => [.int .i64 (stp i), .int .i64 (tr i), .int .i64 (no i), .int .i64 (ot i)]
def ZLD (m E : Nat) (tail : Int) (st dl stp tr no ot : Nat -> Int) : Heap := [(0, some (.st [.p 1 0 0 0, .v (.pointer none), .p 2 0 0 0, .v (.int .i64 tail), .s 3 4 0 m 0])), (1, some (ZBr m st dl true false)), (2, some (ZQ9 m E)), (3, some (.ar 4 m (ZBc stp tr no ot)))]
def ZIf (m E : Nat) (tail : Int) (st dl stp tr no ot : Nat -> Int) : Ent := .ob [] (ZAl (ZLD m E tail st dl stp tr no ot) 4)
def ZEn (m E : Nat) (tail : Int) (st dl stp tr no ot : Nat -> Int) : Heap := [(0, some (.st [.p 2 0 0 0, .p 1 0 0 0, .p 3 0 0 0, .v (.int .i64 tail), .s 4 4 0 m 0])), (2, some (ZBr m st dl true false)), (3, some (ZQ9 m E)), (4, some (.ar 4 m (ZBc stp tr no ot)))]
def ZDl (hs : Nat -> Int) (M E : Nat) (h : Nat -> Int) : Nat -> Nat -> Int := ZK6 (3 * E) (ZAr hs M (h 0)) (M + 1) h
def ZDm (ws : Nat -> Int) (M E : Nat) : Nat -> Nat -> Int := ZK6 (3 * E) (ZAr ws M 0) (M + 1) fun _ => 0
theorem ZLE (th : Int) (M : Nat) (hs ws h : Nat -> Int) (m E : Nat) (hM : M <= 10000) (hm : 1 <= m /\ m <= 64) (hE : 1 <= E /\ E <= 8) (hb : anyZ badH h m = false) :
  ZAE Tryz.prog 109 [(0, some (ZB7 th M hs ws)), (1, some (.ro 1 m (numE h)))] 2 [.l (.p 0 0 0 0), .l (.s 1 1 0 m 0), .l (.v (.int .i64 E))] fun x h' k =>
   x = .t [.l (.p 2 0 0 0), .l (.v (.int .i64 0))] /\ k = 3 /\ h' = [(0, some (ZB7 th (M + 1 + 3 * E * m) (ZDl hs M E h m) (ZDm ws M E m))), (2, some (ZIf m E M (fun _ => 0) (fun _ => -1) (fun _ => 0) (fun _ => 0) (fun _ => 0) fun _ => 0))] := by
 have hse := ZDY m true false (by omega)
 have hcf := ZBq 137 badH ZIe h m (by omega)
 rw [hb] at hcf
 have hpo := ZM2 m E hm hE
 have hw1 := ZBs th M hs ws (h 0) 0 (by omega)
 refine sE Tryz.func109 ic109_eq [.t 6, .t 7] fun G hP hA => ?_
 unfold evF ic109
 conv => whnf
 refine cA (hse) ?_
 refine cA (hcf) ?_
 refine cA (hpo) ?_
 (refine ZCk (by rw [hP]; exact follows) 60 (by kernel_rfl) ?_; conv => whnf)
 repeat' (first | (refine And.intro (by first | omega | (simp [ZAO]; omega)) ?_; conv => whnf) | (refine And.intro ?_ ?_ <;> (conv => whnf)))
 all_goals refine cA (hw1) ?_
 repeat' (first | (refine And.intro (by first | omega | (simp [ZAO]; omega)) ?_; conv => whnf) | (refine And.intro ?_ ?_ <;> (conv => whnf)))
 all_goals
  refine ZAg (α := Nat) (ds := []) (N := 6) (fun i => [(49, sInt .i64 (i : Int))]) []
   (fun i => [(0, some (ZB7 th (M + 1 + 3 * E * i) (ZDl hs M E h i) (ZDm ws M E i)))])
   (fun i => i <= m) (fun i => m - i) 0 (Nat.zero_le _) ?_ fun i hi => ?_
  ·exact iA
  ·have h64 : 3 * E * i <= 24 * 64 := Nat.mul_le_mul (by omega) (by omega)
   have hwi := ZIT th (M + 1 + 3 * E * i) (ZDl hs M E h i) (ZDm ws M E i) (3 * (E : Int)) (h i) 0 (3 * E) (by omega) (by omega)
   rw [show M + 1 + 3 * E * i + 3 * E = M + 1 + 3 * E * (i + 1) from by rw [Nat.mul_succ]; omega] at hwi
   have hni : nadd 0 ((i : Nat) : Int).toNat = i := by simp [ZAO]
   conv => whnf
   refine dsplit (fun h1 => ?_) (fun h1 => ?_)
   ·replace h1 : (i : Int) < (m : Int) := h1
    conv => whnf
    refine zP ?_
    rw [hni]
    conv => whnf
    refine zP ?_
    refine cA (hwi) ?_
    refine zP ?_
    refine ⟨i + 1, by omega, by omega, ?_⟩
    exact iA
   ·replace h1 : ¬ (i : Int) < (m : Int) := h1
    obtain rfl : i = m := by omega
    conv => whnf
    (refine ZAD (H := (ZLD i E M (fun _ => 0) (fun _ => -1) (fun _ => 0) (fun _ => 0) (fun _ => 0) fun _ => 0)) (np := 4) 5 0 (Nat.le_of_ble_eq_true rfl) ?_; conv => whnf); (refine zK ?_)
    exact fA
theorem ZIg (m : Nat) (tail : Int) (n : Nat) (st dl nu stp : Nat -> Int) :
  ZAE Tryz.prog 232 [(0, some (ZIc m tail n st dl nu stp))] 2 [.l (.p 0 0 0 0), .l (.p 1 0 0 0)] fun x h k =>
   x = .t [] /\ k = 2 /\ h = [(0, some (ZFX (ZA9 m tail n st dl nu stp) 4 1))] := by
 refine sG (ZAS 0 (h := [(0, some (ZIc m tail n st dl nu stp))]) (n := 2) (ks := []) (H := ZLA m tail n st dl nu stp) (np := 3) rfl (by decide) rfl rfl rfl) Tryz.func232 ic232_eq [] fun G hP hA => ?_
 unfold evF ic232
 conv => whnf
 (refine ZAD (H := (ZA9 m tail n st dl nu stp)) (np := 4) 0 1 (Nat.le_of_ble_eq_true rfl) ?_; conv => whnf); (refine zK ?_)
 exact fA
theorem ZJr (v : Value) (args : Array Value) (w : World) : (callMethod (.iface 224 v) "Use" args).run Tryz.prog w = .ok (.enter 232 (#[v] ++ args)) w := by kernel_rfl
theorem ZRA (th : Int) (hs ws h : Nat -> Int) (m : Nat) (start slots : Nat) (pool budget glob loc : Int) (hm : 1 <= m /\ m <= 64) (hu : start < 4294967296) (hn : ZBW slots) (hmn : m <= slots) (hb : anyZ badH h m = false) :
  ZAE Tryz.prog 64 [(0, some (ZB7 th 0 hs ws)), (1, some (.ro 1 m (numE h)))] 2 [.l (.p 0 0 0 0), ZCR 2 1 m start slots pool budget glob loc] fun x h' k =>
   x = .t [.l (.i 224 2), .l (.v (.int .i64 0))] /\ k = 3 /\ h' = [(0, some (ZB7 th (1 + slots) (ZDj hs 0 h m slots) (ZDk ws 0 start slots))), (2, some (ZIc m 0 slots (fun _ => 0) (fun _ => -1) (fun _ => 0) fun _ => 0))] := by
 have hcn := ZLB th 0 hs ws h m slots start (by omega) hm hb hu hn hmn
 rw [show 0 + 1 + slots = 1 + slots by omega] at hcn
 refine sE Tryz.func64 ic64_eq [.t 4, .t 5] fun G hP hA => ?_
 unfold evF ic64
 conv => whnf
 refine cA (hcn) ?_
 exact fA
theorem ZJs {hs h : Nat -> Int} {m n : Nat} (hm : 1 <= m /\ m <= 64) (hb : anyZ badH h m = false) : anyZ badH (ZDj hs 0 h m n) (1 + n) = false := by
 have h0 := ZBE.1 hb
 refine ZBE.2 fun j hj => ?_
 refine ZIW (Q := fun x => badH x = false) (m := 0 + 1) (fun j hj => ?_) n (fun j hj => h0 _ (Nat.mod_lt _ (by omega))) j (by omega)
 exact ZCa (Q := fun x => badH x = false) (fun j hj => absurd hj (Nat.not_lt_zero _)) (h0 0 (by omega)) j
theorem ZJt (h : Nat -> Int) (m : Nat) (start slots : Nat) (pool budget glob loc : Int) (hm : 1 <= m /\ m <= 64) (hu : start < 4294967296) (hn : ZBW slots) (hmn : m <= slots) (hb : anyZ badH h m = false) :
  ZAE Tryz.prog 33 [(0, some (.ro 1 m (numE h)))] 1 [ZCR 2 0 m start slots pool budget glob loc] fun x h' k =>
   x = .t [.l (.i 224 1), .l (.p 2 0 0 0), .l (.v (.int .i64 0))] /\ k = 3 /\ h' = [(1, some (.ob [2] (ZAl (ZA9 m 0 slots (fun _ => 0) (fun _ => -1) (fun _ => 0) fun _ => 0) 4))),
    (2, some (ZBy m (1 + slots) (cutF (ZDk (fun _ => 0) 0 start slots) (1 + slots)) (ZDj (fun _ => 0) 0 h m slots) (fun _ => 0) (fun _ => 0) (fun _ => 0) fun _ => 0))] := by
 have hpn := ZCN (m : Int) (fun _ => 0) fun _ => 0
 have hly := ZRA (m : Int) (fun _ => 0) (fun _ => 0) h m start slots pool budget glob loc hm hu hn hmn hb
 have hpp := ZCp m (1 + slots) (ZDj (fun _ => 0) 0 h m slots) (ZDk (fun _ => 0) 0 start slots) hm (by first | omega | (unfold ZBW at hn; omega)) (ZJs hm hb)
 have hu := ZIg m 0 slots (fun _ => 0) (fun _ => -1) (fun _ => 0) fun _ => 0
 refine sE Tryz.func33 ic33_eq [.t 2, .t 3, .t 4] fun G hP hA => ?_
 unfold evF ic33
 conv => whnf
 refine zP ?_
 refine cA (hpn) ?_
 refine cA (hly) ?_
 refine cA (hpp) ?_
 refine ZGy hP ZJr ?_
 refine cA (hu) ?_
 exact fA
theorem ZIh (m E : Nat) (tail : Int) (st dl stp tr no ot : Nat -> Int) :
  ZAE Tryz.prog 253 [(0, some (ZIf m E tail st dl stp tr no ot))] 2 [.l (.p 0 0 0 0), .l (.p 1 0 0 0)] fun x h k =>
   x = .t [] /\ k = 2 /\ h = [(0, some (ZFX (ZEn m E tail st dl stp tr no ot) 5 1))] := by
 refine sG (ZAS 0 (h := [(0, some (ZIf m E tail st dl stp tr no ot))]) (n := 2) (ks := []) (H := ZLD m E tail st dl stp tr no ot) (np := 4) rfl (by decide) rfl rfl rfl) Tryz.func253 ic253_eq [] fun G hP hA => ?_
 unfold evF ic253
 conv => whnf
 (refine ZAD (H := (ZEn m E tail st dl stp tr no ot)) (np := 5) 0 1 (Nat.le_of_ble_eq_true rfl) ?_; conv => whnf); (refine zK ?_)
 exact fA
theorem ZJu (v : Value) (args : Array Value) (w : World) : (callMethod (.iface 233 v) "Use" args).run Tryz.prog w = .ok (.enter 253 (#[v] ++ args)) w := by kernel_rfl
theorem ZRB (th : Int) (hs ws h : Nat -> Int) (m : Nat) (pool : Nat) (start slots budget glob loc : Int) (hm : 1 <= m /\ m <= 64) (hE : 1 <= pool /\ pool <= 8) (hb : anyZ badH h m = false) :
  ZAE Tryz.prog 64 [(0, some (ZB7 th 0 hs ws)), (1, some (.ro 1 m (numE h)))] 2 [.l (.p 0 0 0 0), ZCR 5 1 m start slots pool budget glob loc] fun x h' k =>
   x = .t [.l (.i 233 2), .l (.v (.int .i64 0))] /\ k = 3 /\ h' = [(0, some (ZB7 th (1 + 3 * pool * m) (ZDl hs 0 pool h m) (ZDm ws 0 pool m))), (2, some (ZIf m pool 0 (fun _ => 0) (fun _ => -1) (fun _ => 0) (fun _ => 0) (fun _ => 0) fun _ => 0))] := by
 have hcn := ZLE th 0 hs ws h m pool (by omega) hm hE hb
 rw [show 0 + 1 + 3 * pool * m = 1 + 3 * pool * m by omega] at hcn
 refine sE Tryz.func64 ic64_eq [.t 4, .t 5] fun G hP hA => ?_
 unfold evF ic64
 conv => whnf
 refine cA (hcn) ?_
 exact fA
theorem ZJv {hs h : Nat -> Int} {m E : Nat} (hm : 1 <= m /\ m <= 64) (hb : anyZ badH h m = false) : anyZ badH (ZDl hs 0 E h m) (1 + 3 * E * m) = false := by
 have h0 := ZBE.1 hb
 refine ZBE.2 fun j hj => ?_
 refine ZIX (Q := fun x => badH x = false) (q := 3 * E) (m := 0 + 1) (fun j hj => ?_) m (fun j hj => h0 j hj) j (by omega)
 exact ZCa (Q := fun x => badH x = false) (fun j hj => absurd hj (Nat.not_lt_zero _)) (h0 0 (by omega)) j
theorem ZJw (h : Nat -> Int) (m : Nat) (pool : Nat) (start slots budget glob loc : Int) (hm : 1 <= m /\ m <= 64) (hE : 1 <= pool /\ pool <= 8) (hb : anyZ badH h m = false) :
  ZAE Tryz.prog 33 [(0, some (.ro 1 m (numE h)))] 1 [ZCR 5 0 m start slots pool budget glob loc] fun x h' k =>
   x = .t [.l (.i 233 1), .l (.p 2 0 0 0), .l (.v (.int .i64 0))] /\ k = 3 /\ h' = [(1, some (.ob [2] (ZAl (ZEn m pool 0 (fun _ => 0) (fun _ => -1) (fun _ => 0) (fun _ => 0) (fun _ => 0) fun _ => 0) 5))),
    (2, some (ZBy m (1 + 3 * pool * m) (cutF (ZDm (fun _ => 0) 0 pool m) (1 + 3 * pool * m)) (ZDl (fun _ => 0) 0 pool h m) (fun _ => 0) (fun _ => 0) (fun _ => 0) fun _ => 0))] := by
 have hpn := ZCN (m : Int) (fun _ => 0) fun _ => 0
 have hly := ZRB (m : Int) (fun _ => 0) (fun _ => 0) h m pool start slots budget glob loc hm hE hb
 have hpp := ZCp m (1 + 3 * pool * m) (ZDl (fun _ => 0) 0 pool h m) (ZDm (fun _ => 0) 0 pool m) hm (by first | omega | (have := Nat.mul_le_mul (show 3 * pool <= 24 by omega) hm.2; omega)) (ZJv hm hb)
 have hu := ZIh m pool 0 (fun _ => 0) (fun _ => -1) (fun _ => 0) (fun _ => 0) (fun _ => 0) fun _ => 0
 refine sE Tryz.func33 ic33_eq [.t 2, .t 3, .t 4] fun G hP hA => ?_
 unfold evF ic33
 conv => whnf
 refine zP ?_
 refine cA (hpn) ?_
 refine cA (hly) ?_
 refine cA (hpp) ?_
 refine ZGy hP ZJu ?_
 refine cA (hu) ?_
 exact fA
structure SL where
 ss : SS
 nu : Nat -> Int
 sp : Nat -> Int
def ZEU (n nt nw : Nat) (tail : Int) (m : Nat) (hs : Nat -> Int) (L : SL) (s : PS) : Heap := (1, some (ZBC nt nw hs s)) :: ZA9 n tail m L.ss.st L.ss.dl L.nu L.sp
def ZMW (m : Nat) (u : Int) : Int := bitZ .and .u32 u ((m : Int) - 1)
theorem ZLo (o : BinOp) (a b : Int) : 0 <= bitZ o .u32 a b /\ bitZ o .u32 a b <= 4294967295 := by
 have h : ∀ r : Nat, 0 <= IntKind.wrap .u32 (r : Int) /\ IntKind.wrap .u32 (r : Int) <= 4294967295 := fun r => by simp [IntKind.wrap, IntKind.signed, IntKind.bits]; omega
 cases o <;> exact h _
theorem ZPV (u : Int) (n : Nat) (hn : ZBW n) :
  ZAE Tryz.prog 133 [] 0 [.l (.v (.int .u32 u)), .l (.v (.int .i64 n))] fun x h k => x = sInt .i64 (ZMW n u) /\ k = 0 /\ h = [] := by
 have b0 := ZLo .and u ((n : Int) - 1)
 refine sE Tryz.func133 ic133_eq [.t 4] fun G hP hA => ?_
 unfold evF ic133
 rcases hn with rfl | rfl | rfl | rfl | rfl | rfl | rfl
 all_goals
  conv => whnf
  refine zP ?_
  refine fI ?_
  rfl
def slA (tail : Int) (m : Nat) (u : Int) : Int := tail + 1 + ZMW m u
theorem ZE4 (n nt nw m : Nat) (tail u : Int) (hs : Nat -> Int) (L : SL) (s : PS) (hm : ZBW m) (htl : 0 <= tail /\ tail <= 4096) :
  ZAE Tryz.prog 234 (ZEU n nt nw tail m hs L s) 4 [.l (.p 0 0 0 0), .l (.v (.int .u32 u))] fun x h k => x = sInt .i64 (slA tail m u) /\ k = 4 /\ h = ZEU n nt nw tail m hs L s := by
 have hsl := ZPV u m hm
 have b0 := ZLo .and u ((m : Int) - 1)
 refine sE Tryz.func234 ic234_eq [.t 4] fun G hP hA => ?_
 unfold evF ic234
 conv => whnf
 refine zD ?_
 refine zP ?_
 refine cA (hsl) ?_
 have hz : 0 <= ZMW m u /\ ZMW m u <= 4294967295 := b0
 refine zP ?_
 refine zO ?_
 conv => whnf
 exact fA
def slLk (nw : Nat) (tail : Int) (m t ta : Nat) (L : SL) (s : PS) : Dd × SL × PS :=
 pick (decide (L.sp t = 0)) (⟨0, true, false, false⟩, ⟨L.ss, updF L.nu t (adV nw tail 1 s), updF L.sp t 1⟩, adS nw ta tail 1 s)
  (pick (decide (L.sp t = 1)) (evD 0, ⟨L.ss, L.nu, pick (decide (rdV nw (slA tail m (L.nu t)) s = 0)) L.sp (updF L.sp t 2)⟩, rdS nw ta (slA tail m (L.nu t)) s)
   (evD 1, L, wtS nw ta (slA tail m (L.nu t)) 0 s))
def ZDJ (nw : Nat) (tail : Int) (m t ta : Nat) (L : SL) (s : PS) : Dd × SL × PS :=
 pick (decide (L.ss.st t = 1)) (slLk nw tail m t ta L s) (pick (decide (L.ss.st t = 3)) (evD 3, ⟨L.ss, updF L.nu t 0, updF L.sp t 0⟩, wtS nw ta (slA tail m (u32p (L.nu t))) 1 s) (evD 0, L, s))
def ZF8 (t : Nat) (r : Dd × SL × PS) : Dd × SL × PS := (r.1, ⟨enSS r.2.1.ss t r.1.e, r.2.1.nu, r.2.1.sp⟩, r.2.2)
def ZBn (n nw : Nat) (tail : Int) (m : Nat) (t : Int) (ta : Nat) (L : SL) (s : PS) : Dd × SL × PS :=
 match inW n t with | true => ZF8 t.toNat (ZDJ nw tail m t.toNat ta L s) | false => (evD 0, L, s)
theorem ZSW (f g : Nat -> Int) (i : Nat) (v : Int) (j : Nat) : mrgL (j = i) (ZAI (ZFL f g j) 0 [.int .u32 v]) (ZFL f g j) = ZFL (updF f i v) g j := by
 simp only [ZFL, updF, ZAI, setL, mrgL, ZA0]
 by_cases h : j = i <;> simp [h]
theorem ZR2 (f g : Nat -> Int) (i : Nat) (v : Int) (j : Nat) : mrgL (j = i) (ZAI (ZFL f g j) 1 [.int .i64 v]) (ZFL f g j) = ZFL f (updF g i v) j := by
 simp only [ZFL, updF, ZAI, setL, mrgL, ZA0]
 by_cases h : j = i <;> simp [h]
theorem ZSX (f g : Nat -> Int) (i : Nat) (u v : Int) (j : Nat) : mrgL (j = i) (ZAI (ZFL f g j) 0 [.int .u32 u, .int .i64 v]) (ZFL f g j) = ZFL (updF f i u) (updF g i v) j := by
 simp only [ZFL, updF, ZAI, setL, mrgL, ZA0]
 by_cases h : j = i <;> simp [h]
theorem ZNi (n nt nw m t ta : Nat) (tail : Int) (hs : Nat -> Int) (L : SL) (s : PS) (ht : t < n) (hta : ta < nt) (hnt : nt <= 64) (hn : n <= 64) (hnw : nw <= 4096) (hm : ZBW m) (htl : 0 <= tail /\ tail <= 4096) :
  ZAE Tryz.prog 233 (ZEU n nt nw tail m hs L s) 4 [.l (.p 0 0 0 0), .l (.p 3 2 t 0), .l (.v (.int .i64 ta))] fun x h k =>
   x = didO (slLk nw tail m t ta L s).1 /\ k = 4 /\ h = ZEU n nt nw tail m hs (slLk nw tail m t ta L s).2.1 (slLk nw tail m t ta L s).2.2 := by
 have hpa := adSp nt nw hs s ta tail 1 hta hnt hnw
 have hpl := ldS nt nw hs s ta (slA tail m (L.nu t)) hta hnt hnw
 have hps := stS nt nw hs s ta (slA tail m (L.nu t)) 0 hta hnt hnw
 have hsl := ZE4 n nt nw m tail (L.nu t) hs L s hm htl
 refine sE Tryz.func233 ic233_eq [.ca 6 4] fun G hP hA => ?_
 unfold evF ic233 slLk
 by_cases h0 : L.sp t = 0
 ·simp only [h0, decide_true, pick]
  conv => whnf
  refine g1 hpa ?_
  refine fQ ?_ ?_
  ·rfl
  ·exact ⟨ZAB, rfl, ZAB, ⟨rfl, rfl, fun j hj => by simp only [Nat.zero_add, ZSW, ZR2]⟩, trivial⟩
 by_cases h1 : L.sp t = 1
 ·by_cases hz : rdV nw (slA tail m (L.nu t)) s = 0
  ·simp only [Int.reduceEq, h0, h1, hz, decide_true, decide_false, pick]
   conv => whnf
   refine g2 hsl hpl ?_
   exact fA
  ·simp only [Int.reduceEq, h0, h1, hz, decide_true, decide_false, pick]
   conv => whnf
   refine g2 hsl hpl ?_
   refine fQ ?_ ?_
   ·rfl
   ·exact ⟨ZAB, rfl, ZAB, ⟨rfl, rfl, fun j hj => by simp only [Nat.zero_add, ZR2]⟩, trivial⟩
 ·simp only [h0, h1, decide_false, pick]
  conv => whnf
  refine g2 hsl hps ?_
  exact fA
theorem ZNj (n nt nw m t ta : Nat) (tail now : Int) (hs : Nat -> Int) (L : SL) (s : PS) (ht : t < n) (hta : ta < nt) (hnt : nt <= 64) (hn : n <= 64) (hnw : nw <= 4096) (hm : ZBW m) (htl : 0 <= tail /\ tail <= 4096) :
  ZAE Tryz.prog 231 (ZEU n nt nw tail m hs L s) 4 [.l (.p 0 0 0 0), .l (.v (.int .i64 t)), .l (.v (.int .i64 ta)), .l (.v (.int .i64 now))] fun x h k =>
   x = didO (ZF8 t (ZDJ nw tail m t ta L s)).1 /\ k = 4 /\ h = ZEU n nt nw tail m hs (ZF8 t (ZDJ nw tail m t ta L s)).2.1 (ZF8 t (ZDJ nw tail m t ta L s)).2.2 := by
 have hst := ZAy n L.ss.st L.ss.dl false false t ht hn
 have hlk := ZNi n nt nw m t ta tail hs L s ht hta hnt hn hnw hm htl
 refine sE Tryz.func231 ic231_eq [.ca 8 4] fun G hP hA => ?_
 unfold evF ic231 ZDJ ZF8
 by_cases h1 : L.ss.st t = 1
 ·rw [h1] at hst
  simp only [h1, decide_true, pick]
  generalize slLk nw tail m t ta L s = r at hlk ⊢
  have hen := ZAQ n r.2.1.ss.st r.2.1.ss.dl false false t r.1.e ht hn
  conv => whnf
  refine g3 hst hlk hen ?_
  exact fA
 by_cases h3 : L.ss.st t = 3
 ·rw [h3] at hst
  simp only [Int.reduceEq, h3, decide_true, decide_false, pick]
  have hsl := ZE4 n nt nw m tail (u32p (L.nu t)) hs L s hm htl
  have hps := stS nt nw hs s ta (slA tail m (u32p (L.nu t))) 1 hta hnt hnw
  have hen := ZAQ n L.ss.st L.ss.dl false false t 3 ht hn
  conv => whnf
  refine g4 hst hsl hps hen ?_
  refine fQ ?_ ?_
  ·rfl
  ·exact ⟨ZAB, rfl, ZAB, ⟨rfl, rfl, fun j hj => by simp only [Nat.zero_add, ZSX]⟩, trivial⟩
 ·have hen := ZAQ n L.ss.st L.ss.dl false false t 0 ht hn
  simp only [h1, h3, decide_false, pick]
  conv => whnf
  refine g2 hst hen ?_
  exact fA
structure CL where
 ss : SS
 no : Nat -> Int
 ah : Nat -> Int
 sp : Nat -> Int
def clhG (n nt nw : Nat) (tail : Int) (hs : Nat -> Int) (L : CL) (s : PS) : Heap := (1, some (ZBC nt nw hs s)) :: ZDL n tail L.ss.st L.ss.dl L.no L.ah L.sp
def i64w (x : Int) : Int := IntKind.i64.wrap x
def u32w (x : Int) : Int := IntKind.u32.wrap x
def clA (tail k : Int) : Int := i64w (tail + 1 + k)
theorem ZEg (n nt nw : Nat) (tail k : Int) (hs : Nat -> Int) (L : CL) (s : PS) (htl : 0 <= tail /\ tail <= 4096) :
  ZAE Tryz.prog 238 (clhG n nt nw tail hs L s) 4 [.l (.p 0 0 0 0), .l (.v (.int .i64 k))] fun x h m => x = sInt .i64 (clA tail k) /\ m = 4 /\ h = clhG n nt nw tail hs L s := by
 refine sE Tryz.func238 ic238_eq [.t 4] fun G hP hA => ?_
 unfold evF ic238
 conv => whnf
 refine g0 ?_
 exact fA
def clLk (nw : Nat) (tail : Int) (t ta : Nat) (L : CL) (s : PS) : Dd × CL × PS :=
 pick (decide (L.sp t = 0)) (evD 0, ⟨L.ss, L.no, L.ah, updF L.sp t 1⟩, wtS nw ta (clA tail (L.no t)) 1 s)
  (pick (decide (L.sp t = 1)) (⟨0, true, false, false⟩, ⟨L.ss, L.no, updF L.ah t (i64w (rdV nw tail s)), updF L.sp t 2⟩, wtS nw ta tail (u32w (L.no t)) s)
   (pick (decide (L.sp t = 2)) (evD (pick (decide (rdV nw (clA tail (L.ah t)) s = 0)) 1 0), L, rdS nw ta (clA tail (L.ah t)) s) (evD 0, L, s)))
def ZCn (nw : Nat) (tail : Int) (t ta : Nat) (L : CL) (s : PS) : Dd × CL × PS :=
 pick (decide (L.ss.st t = 1)) (clLk nw tail t ta L s) (pick (decide (L.ss.st t = 3)) (evD 3, ⟨L.ss, updF L.no t (L.ah t), updF L.ah t 0, updF L.sp t 0⟩, wtS nw ta (clA tail (L.no t)) 0 s)
  (pick (decide (L.ss.st t = 4)) (evD (pick (decide (rdV nw tail s = u32w (L.no t))) 4 5), L, rdS nw ta tail s) (evD 0, L, s)))
def ZFf (t : Nat) (r : Dd × CL × PS) : Dd × CL × PS := (r.1, ⟨enSS r.2.1.ss t r.1.e, r.2.1.no, r.2.1.ah, r.2.1.sp⟩, r.2.2)
def ZBQ (n nw : Nat) (tail : Int) (t : Int) (ta : Nat) (L : CL) (s : PS) : Dd × CL × PS :=
 match inW n t with | true => ZFf t.toNat (ZCn nw tail t.toNat ta L s) | false => (evD 0, L, s)
theorem ZSY (f g h : Nat -> Int) (i : Nat) (v : Int) (j : Nat) : mrgL (j = i) (ZAI (clhE f g h j) 1 [.int .i64 v]) (clhE f g h j) = clhE f (updF g i v) h j := by
 simp only [clhE, updF, ZAI, setL, mrgL, ZA0]
 by_cases h : j = i <;> simp [h]
theorem ZR3 (f g h : Nat -> Int) (i : Nat) (v : Int) (j : Nat) : mrgL (j = i) (ZAI (clhE f g h j) 2 [.int .i64 v]) (clhE f g h j) = clhE f g (updF h i v) j := by
 simp only [clhE, updF, ZAI, setL, mrgL, ZA0]
 by_cases h : j = i <;> simp [h]
theorem ZSZ (f g h : Nat -> Int) (i : Nat) (u v x : Int) (j : Nat) : mrgL (j = i) (ZAI (clhE f g h j) 0 [.int .i64 u, .int .i64 v, .int .i64 x]) (clhE f g h j) = clhE (updF f i u) (updF g i v) (updF h i x) j := by
 simp only [clhE, updF, ZAI, setL, mrgL, ZA0]
 by_cases h : j = i <;> simp [h]
theorem ZNk (n nt nw t ta : Nat) (tail : Int) (hs : Nat -> Int) (L : CL) (s : PS) (ht : t < n) (hta : ta < nt) (hnt : nt <= 64) (hn : n <= 64) (hnw : nw <= 4096) (htl : 0 <= tail /\ tail <= 4096) :
  ZAE Tryz.prog 237 (clhG n nt nw tail hs L s) 4 [.l (.p 0 0 0 0), .l (.p 3 3 t 0), .l (.v (.int .i64 ta))] fun x h k =>
   x = didO (clLk nw tail t ta L s).1 /\ k = 4 /\ h = clhG n nt nw tail hs (clLk nw tail t ta L s).2.1 (clLk nw tail t ta L s).2.2 := by
 have h1 := stS nt nw hs s ta (clA tail (L.no t)) 1 hta hnt hnw
 have h2 := swS nt nw hs s ta tail (u32w (L.no t)) hta hnt hnw
 have h3 := ldS nt nw hs s ta (clA tail (L.ah t)) hta hnt hnw
 have hf := ZEg n nt nw tail (L.no t) hs L s htl
 have hg := ZEg n nt nw tail (L.ah t) hs L s htl
 refine sE Tryz.func237 ic237_eq [.ca 6 4] fun G hP hA => ?_
 unfold evF ic237 clLk
 by_cases e0 : L.sp t = 0
 ·simp only [e0, decide_true, pick]
  conv => whnf
  refine g2 hf h1 ?_
  refine fQ ?_ ?_
  ·rfl
  ·exact ⟨ZAB, rfl, ZAB, ⟨rfl, rfl, fun j hj => by simp only [Nat.zero_add, ZR3]⟩, trivial⟩
 by_cases e1 : L.sp t = 1
 ·simp only [Int.reduceEq, e0, e1, decide_true, decide_false, pick]
  conv => whnf
  refine g1 h2 ?_
  refine fQ ?_ ?_
  ·rfl
  ·exact ⟨ZAB, rfl, ZAB, ⟨rfl, rfl, fun j hj => by simp only [Nat.zero_add, ZSY, ZR3]; rfl⟩, trivial⟩
 by_cases e2 : L.sp t = 2
 ·by_cases ez : rdV nw (clA tail (L.ah t)) s = 0
  ·simp only [Int.reduceEq, e0, e1, e2, ez, decide_true, decide_false, pick]
   conv => whnf
   refine g2 hg h3 ?_
   exact fA
  ·simp only [Int.reduceEq, e0, e1, e2, ez, decide_true, decide_false, pick]
   conv => whnf
   refine g2 hg h3 ?_
   exact fA
 ·simp only [e0, e1, e2, decide_false, pick]
  conv => whnf
  refine g0 ?_
  exact fA
theorem ZNl (n nt nw t ta : Nat) (tail now : Int) (hs : Nat -> Int) (L : CL) (s : PS) (ht : t < n) (hta : ta < nt) (hnt : nt <= 64) (hn : n <= 64) (hnw : nw <= 4096) (htl : 0 <= tail /\ tail <= 4096) :
  ZAE Tryz.prog 235 (clhG n nt nw tail hs L s) 4 [.l (.p 0 0 0 0), .l (.v (.int .i64 t)), .l (.v (.int .i64 ta)), .l (.v (.int .i64 now))] fun x h k =>
   x = didO (ZFf t (ZCn nw tail t ta L s)).1 /\ k = 4 /\ h = clhG n nt nw tail hs (ZFf t (ZCn nw tail t ta L s)).2.1 (ZFf t (ZCn nw tail t ta L s)).2.2 := by
 have hst := ZAy n L.ss.st L.ss.dl false true t ht hn
 have hlk := ZNk n nt nw t ta tail hs L s ht hta hnt hn hnw htl
 have hf := ZEg n nt nw tail (L.no t) hs L s htl
 refine sE Tryz.func235 ic235_eq [.ca 8 4] fun G hP hA => ?_
 unfold evF ic235 ZCn ZFf
 by_cases e1 : L.ss.st t = 1
 ·rw [e1] at hst
  simp only [e1, decide_true, pick]
  generalize clLk nw tail t ta L s = r at hlk ⊢
  have hen := ZAQ n r.2.1.ss.st r.2.1.ss.dl false true t r.1.e ht hn
  conv => whnf
  refine g3 hst hlk hen ?_
  exact fA
 by_cases e3 : L.ss.st t = 3
 ·rw [e3] at hst
  simp only [Int.reduceEq, e3, decide_true, decide_false, pick]
  have hps := stS nt nw hs s ta (clA tail (L.no t)) 0 hta hnt hnw
  have hen := ZAQ n L.ss.st L.ss.dl false true t 3 ht hn
  conv => whnf
  refine g4 hst hf hps hen ?_
  refine fQ ?_ ?_
  ·rfl
  ·exact ⟨ZAB, rfl, ZAB, ⟨rfl, rfl, fun j hj => by simp only [Nat.zero_add, ZSZ]⟩, trivial⟩
 by_cases e4 : L.ss.st t = 4
 ·rw [e4] at hst
  have hpl := ldS nt nw hs s ta tail hta hnt hnw
  by_cases ez : rdV nw tail s = u32w (L.no t)
  ·have hen := ZAQ n L.ss.st L.ss.dl false true t 4 ht hn
   simp only [Int.reduceEq, e4, ez, decide_true, decide_false, pick]
   conv => whnf
   refine g3 hst hpl hen ?_
   exact fA
  ·have hen := ZAQ n L.ss.st L.ss.dl false true t 5 ht hn
   simp only [Int.reduceEq, e4, ez, decide_true, decide_false, pick]
   conv => whnf
   refine g3 hst hpl hen ?_
   exact fA
 ·have hen := ZAQ n L.ss.st L.ss.dl false true t 0 ht hn
  simp only [e1, e3, e4, decide_false, pick]
  conv => whnf
  refine g2 hst hen ?_
  exact fA
structure ML where
 ss : SS
 sp : Nat -> Int
 ot : Nat -> Int
def mcsG (n nt nw : Nat) (tail : Int) (hs : Nat -> Int) (L : ML) (s : PS) : Heap := (1, some (ZBC nt nw hs s)) :: ZDM n tail L.ss.st L.ss.dl L.sp L.ot
def mcA (tail u : Int) : Int := i64w (i64w (tail + i64w (2 * i64w u)) - 1)
def mcS (n : Nat) (tail : Int) : Heap := [(0, some (.st [.p 2 0 0 0, .p 1 0 0 0, .v (.int .i64 tail), .s 3 2 0 n 0]))]
theorem ZCo (n : Nat) (tail u : Int) :
  ZAE Tryz.prog 247 (mcS n tail) 4 [.l (.p 0 0 0 0), .l (.v (.int .u32 u))] fun x h m => x = sInt .i64 (mcA tail u) /\ m = 4 /\ h = mcS n tail := by
 refine sE Tryz.func247 ic247_eq [.t 4] fun G hP hA => ?_
 unfold evF ic247
 conv => whnf
 refine g0 ?_
 exact fA
def nm (t : Nat) : Int := (t : Int) + 1
def mcN (x : Int) : Int := min (i64w (x + 1)) 4
def mcLk (nw : Nat) (tail : Int) (t ta : Nat) (L : ML) (s : PS) : Dd × ML × PS :=
 pick (decide (L.sp t = 0)) (evD 0, ⟨L.ss, updF L.sp t 1, L.ot⟩, wtS nw ta (mcA tail (nm t)) 0 s)
  (pick (decide (L.sp t = 1)) (⟨pick (decide (rdV nw tail s = 0)) 1 0, true, false, false⟩, ⟨L.ss, updF L.sp t 2, updF L.ot t (rdV nw tail s)⟩, wtS nw ta tail (nm t) s)
   (pick (decide (L.sp t = 2)) (evD 0, ⟨L.ss, updF L.sp t 3, L.ot⟩, wtS nw ta (i64w (mcA tail (nm t) + 1)) 1 s)
    (pick (decide (L.sp t = 3)) (evD 0, ⟨L.ss, updF L.sp t 4, L.ot⟩, wtS nw ta (mcA tail (L.ot t)) (nm t) s)
     (pick (decide (L.sp t = 4)) (evD (pick (decide (rdV nw (i64w (mcA tail (nm t) + 1)) s = 0)) 1 0), ⟨L.ss, updF L.sp t 4, L.ot⟩, rdS nw ta (i64w (mcA tail (nm t) + 1)) s)
      (evD 0, ⟨L.ss, updF L.sp t (mcN (L.sp t)), L.ot⟩, s)))))
def mcUl (nw : Nat) (tail : Int) (t ta : Nat) (L : ML) (s : PS) : Int × ML × PS :=
 pick (decide (L.sp t = 0) || decide (L.sp t = 2)) (0, ⟨L.ss, pick (decide (rdV nw (mcA tail (nm t)) s = 0)) (pick (decide (L.sp t = 0)) (updF L.sp t 1) L.sp) (updF L.sp t 3), updF L.ot t (rdV nw (mcA tail (nm t)) s)⟩, rdS nw ta (mcA tail (nm t)) s)
  (pick (decide (L.sp t = 1)) (pick (casB nw tail (nm t) s) 3 0, ⟨L.ss, pick (casB nw tail (nm t) s) L.sp (updF L.sp t 2), L.ot⟩, casS nw ta tail (nm t) 0 s)
   (3, L, wtS nw ta (i64w (mcA tail (L.ot t) + 1)) 0 s))
def ZBp (nw : Nat) (tail : Int) (t ta : Nat) (L : ML) (s : PS) : Dd × ML × PS :=
 pick (decide (L.ss.st t = 1)) (mcLk nw tail t ta L s) (pick (decide (L.ss.st t = 3)) (evD (mcUl nw tail t ta L s).1, (mcUl nw tail t ta L s).2)
  (pick (decide (L.ss.st t = 4)) (evD (pick (decide (rdV nw (mcA tail (nm t)) s = 0)) 4 5), L, rdS nw ta (mcA tail (nm t)) s) (evD 0, L, s)))
def ZHB (t : Nat) (r : Dd × ML × PS) : Dd × ML × PS :=
 (r.1, ⟨enSS r.2.1.ss t r.1.e, pick (enB r.2.1.ss.st t r.1.e) (updF r.2.1.sp t 0) r.2.1.sp, pick (enB r.2.1.ss.st t r.1.e) (updF r.2.1.ot t 0) r.2.1.ot⟩, r.2.2)
def ZBY (n nw : Nat) (tail : Int) (t : Int) (ta : Nat) (L : ML) (s : PS) : Dd × ML × PS :=
 match inW n t with | true => ZHB t.toNat (ZBp nw tail t.toNat ta L s) | false => (evD 0, L, s)
theorem ZEh (f g : Nat -> Int) (i : Nat) (v : Int) (j : Nat) : mrgL (j = i) (ZAI (mcsE f g j) 0 [.int .i64 v]) (mcsE f g j) = mcsE (updF f i v) g j := by
 simp only [mcsE, updF, ZAI, setL, mrgL, ZA0]
 by_cases h : j = i <;> simp [h]
theorem ZJJ (f g : Nat -> Int) (i : Nat) (v : Int) (j : Nat) : mrgL (j = i) (ZAI (mcsE f g j) 1 [.int .u32 v]) (mcsE f g j) = mcsE f (updF g i v) j := by
 simp only [mcsE, updF, ZAI, setL, mrgL, ZA0]
 by_cases h : j = i <;> simp [h]
theorem ZPW (f g : Nat -> Int) (i : Nat) (u v : Int) (j : Nat) : mrgL (j = i) (ZAI (mcsE f g j) 0 [.int .i64 u, .int .u32 v]) (mcsE f g j) = mcsE (updF f i u) (updF g i v) j := by
 simp only [mcsE, updF, ZAI, setL, mrgL, ZA0]
 by_cases h : j = i <;> simp [h]
theorem ZNm (n nt nw t ta : Nat) (tail : Int) (hs : Nat -> Int) (L : ML) (s : PS) (ht : t < n) (hta : ta < nt) (hnt : nt <= 64) (hn : n <= 64) (hnw : nw <= 4096) :
  ZAE Tryz.prog 245 (mcsG n nt nw tail hs L s) 4 [.l (.p 0 0 0 0), .l (.p 3 2 t 0), .l (.v (.int .u32 (nm t))), .l (.v (.int .i64 ta))] fun x h k =>
   x = didO (mcLk nw tail t ta L s).1 /\ k = 4 /\ h = mcsG n nt nw tail hs (mcLk nw tail t ta L s).2.1 (mcLk nw tail t ta L s).2.2 := by
 refine sE Tryz.func245 ic245_eq [.ca 8 4] fun G hP hA => ?_
 unfold evF ic245 mcLk
 have hf := ZCo n tail (nm t)
 have hg := ZCo n tail (L.ot t)
 by_cases e0 : L.sp t = 0
 ·simp only [e0, decide_true, pick]
  have h1 := stS nt nw hs s ta (mcA tail (nm t)) 0 hta hnt hnw
  conv => whnf
  refine g2 hf h1 ?_
  refine fQ ?_ ?_
  ·rfl
  ·exact ⟨ZAB, rfl, ZAB, ⟨rfl, rfl, fun j hj => by simp only [Nat.zero_add, ZEh, e0]; rfl⟩, trivial⟩
 by_cases e1 : L.sp t = 1
 ·have h2 := swS nt nw hs s ta tail (nm t) hta hnt hnw
  by_cases ez : rdV nw tail s = 0
  ·simp only [Int.reduceEq, e0, e1, ez, decide_true, decide_false, pick]
   conv => whnf
   refine g1 h2 ?_
   refine fQ ?_ ?_
   ·rfl
   ·exact ⟨ZAB, rfl, ZAB, ⟨rfl, rfl, fun j hj => by first | (simp only [Nat.zero_add, ZEh, ZJJ, e1, ez]; rfl) | (simp only [Nat.zero_add, ZEh, ZJJ, e1]; rfl)⟩, trivial⟩
  ·simp only [Int.reduceEq, e0, e1, ez, decide_true, decide_false, pick]
   conv => whnf
   refine g1 h2 ?_
   refine fQ ?_ ?_
   ·rfl
   ·exact ⟨ZAB, rfl, ZAB, ⟨rfl, rfl, fun j hj => by first | (simp only [Nat.zero_add, ZEh, ZJJ, e1, ez]; rfl) | (simp only [Nat.zero_add, ZEh, ZJJ, e1]; rfl)⟩, trivial⟩
 by_cases e2 : L.sp t = 2
 ·have h1 := stS nt nw hs s ta (i64w (mcA tail (nm t) + 1)) 1 hta hnt hnw
  simp only [Int.reduceEq, e0, e1, e2, decide_true, decide_false, pick]
  conv => whnf
  refine g2 hf h1 ?_
  refine fQ ?_ ?_
  ·rfl
  ·exact ⟨ZAB, rfl, ZAB, ⟨rfl, rfl, fun j hj => by simp only [Nat.zero_add, ZEh, e2]; rfl⟩, trivial⟩
 by_cases e3 : L.sp t = 3
 ·have h1 := stS nt nw hs s ta (mcA tail (L.ot t)) (nm t) hta hnt hnw
  simp only [Int.reduceEq, e0, e1, e2, e3, decide_true, decide_false, pick]
  conv => whnf
  refine g2 hg h1 ?_
  refine fQ ?_ ?_
  ·rfl
  ·exact ⟨ZAB, rfl, ZAB, ⟨rfl, rfl, fun j hj => by simp only [Nat.zero_add, ZEh, e3]; rfl⟩, trivial⟩
 by_cases e4 : L.sp t = 4
 ·have h1 := ldS nt nw hs s ta (i64w (mcA tail (nm t) + 1)) hta hnt hnw
  by_cases ez : rdV nw (i64w (mcA tail (nm t) + 1)) s = 0
  ·simp only [Int.reduceEq, e0, e1, e2, e3, e4, ez, decide_true, decide_false, pick]
   conv => whnf
   refine g2 hf h1 ?_
   refine fQ ?_ ?_
   ·rfl
   ·exact ⟨ZAB, rfl, ZAB, ⟨rfl, rfl, fun j hj => by simp only [Nat.zero_add, ZEh, e4]; rfl⟩, trivial⟩
  ·simp only [Int.reduceEq, e0, e1, e2, e3, e4, ez, decide_true, decide_false, pick]
   conv => whnf
   refine g2 hf h1 ?_
   refine fQ ?_ ?_
   ·rfl
   ·exact ⟨ZAB, rfl, ZAB, ⟨rfl, rfl, fun j hj => by simp only [Nat.zero_add, ZEh, e4]; rfl⟩, trivial⟩
 ·simp only [e0, e1, e2, e3, e4, decide_false, pick]
  conv => whnf
  refine g0 ?_
  refine fQ ?_ ?_
  ·rfl
  ·exact ⟨ZAB, rfl, ZAB, ⟨rfl, rfl, fun j hj => by simp only [Nat.zero_add, ZEh]; rfl⟩, trivial⟩
theorem ZNn (n nt nw t ta : Nat) (tail : Int) (hs : Nat -> Int) (L : ML) (s : PS) (ht : t < n) (hta : ta < nt) (hnt : nt <= 64) (hn : n <= 64) (hnw : nw <= 4096) :
  ZAE Tryz.prog 246 (mcsG n nt nw tail hs L s) 4 [.l (.p 0 0 0 0), .l (.p 3 2 t 0), .l (.v (.int .u32 (nm t))), .l (.v (.int .i64 ta))] fun x h k =>
   x = sInt .i64 (mcUl nw tail t ta L s).1 /\ k = 4 /\ h = mcsG n nt nw tail hs (mcUl nw tail t ta L s).2.1 (mcUl nw tail t ta L s).2.2 := by
 refine sE Tryz.func246 ic246_eq [.t 8] fun G hP hA => ?_
 unfold evF ic246 mcUl
 have hf := ZCo n tail (nm t)
 have hg := ZCo n tail (L.ot t)
 have hl := ldS nt nw hs s ta (mcA tail (nm t)) hta hnt hnw
 by_cases e0 : L.sp t = 0
 ·by_cases ez : rdV nw (mcA tail (nm t)) s = 0
  ·simp only [e0, ez, decide_true, pick, Bool.true_or]
   conv => whnf
   refine g2 hf hl ?_
   refine fQ ?_ ?_
   ·rfl
   ·exact ⟨ZAB, rfl, ZAB, ⟨rfl, rfl, fun j hj => by simp only [Nat.zero_add, ZEh, ZJJ, ez]⟩, trivial⟩
  ·simp only [e0, ez, decide_true, decide_false, pick, Bool.true_or]
   conv => whnf
   refine g2 hf hl ?_
   refine fQ ?_ ?_
   ·rfl
   ·exact ⟨ZAB, rfl, ZAB, ⟨rfl, rfl, fun j hj => by simp only [Nat.zero_add, ZEh, ZJJ]⟩, trivial⟩
 by_cases e2 : L.sp t = 2
 ·by_cases ez : rdV nw (mcA tail (nm t)) s = 0
  ·simp only [Int.reduceEq, e2, ez, decide_true, decide_false, pick, Bool.or_true]
   conv => whnf
   refine g2 hf hl ?_
   refine fQ ?_ ?_
   ·rfl
   ·exact ⟨ZAB, rfl, ZAB, ⟨rfl, rfl, fun j hj => by simp only [Nat.zero_add, ZEh, ZJJ, ez]⟩, trivial⟩
  ·simp only [Int.reduceEq, e2, ez, decide_true, decide_false, pick, Bool.or_true]
   conv => whnf
   refine g2 hf hl ?_
   refine fQ ?_ ?_
   ·rfl
   ·exact ⟨ZAB, rfl, ZAB, ⟨rfl, rfl, fun j hj => by simp only [Nat.zero_add, ZEh, ZJJ]⟩, trivial⟩
 by_cases e1 : L.sp t = 1
 ·have hc := caS nt nw hs s ta tail (nm t) 0 hta hnt hnw
  cases ec : casB nw tail (nm t) s with
  | true =>
   rw [ec] at hc
   simp only [Int.reduceEq, e0, e1, e2, decide_true, decide_false, pick, Bool.or_false]
   conv => whnf
   refine g1 hc ?_
   exact fA
  | false =>
   rw [ec] at hc
   simp only [Int.reduceEq, e0, e1, e2, decide_true, decide_false, pick, Bool.or_false]
   conv => whnf
   refine g1 hc ?_
   refine fQ ?_ ?_
   ·rfl
   ·exact ⟨ZAB, rfl, ZAB, ⟨rfl, rfl, fun j hj => by simp only [Nat.zero_add, ZEh]⟩, trivial⟩
 ·have h1 := stS nt nw hs s ta (i64w (mcA tail (L.ot t) + 1)) 0 hta hnt hnw
  simp only [e0, e1, e2, decide_false, pick, Bool.or_false]
  conv => whnf
  refine g2 hg h1 ?_
  exact fA
theorem ZNo (n nt nw t ta : Nat) (tail now : Int) (hs : Nat -> Int) (L : ML) (s : PS) (ht : t < n) (hta : ta < nt) (hnt : nt <= 64) (hn : n <= 64) (hnw : nw <= 4096) :
  ZAE Tryz.prog 243 (mcsG n nt nw tail hs L s) 4 [.l (.p 0 0 0 0), .l (.v (.int .i64 t)), .l (.v (.int .i64 ta)), .l (.v (.int .i64 now))] fun x h k =>
   x = didO (ZHB t (ZBp nw tail t ta L s)).1 /\ k = 4 /\ h = mcsG n nt nw tail hs (ZHB t (ZBp nw tail t ta L s)).2.1 (ZHB t (ZBp nw tail t ta L s)).2.2 := by
 have hst := ZAy n L.ss.st L.ss.dl false true t ht hn
 have hlk := ZNm n nt nw t ta tail hs L s ht hta hnt hn hnw
 have hul := ZNn n nt nw t ta tail hs L s ht hta hnt hn hnw
 have hf := ZCo n tail (nm t)
 have hl := ldS nt nw hs s ta (mcA tail (nm t)) hta hnt hnw
 refine sE Tryz.func243 ic243_eq [.ca 8 4] fun G hP hA => ?_
 unfold evF ic243 ZBp ZHB
 by_cases e1 : L.ss.st t = 1
 ·rw [e1] at hst
  simp only [e1, decide_true, pick]
  generalize mcLk nw tail t ta L s = r at hlk ⊢
  have hen := ZAQ n r.2.1.ss.st r.2.1.ss.dl false true t r.1.e ht hn
  cases eb : enB r.2.1.ss.st t r.1.e with
  | true =>
   rw [eb] at hen
   simp only [pick]
   conv => whnf
   refine g3 hst hlk hen ?_
   refine fQ ?_ ?_
   ·rfl
   ·exact ⟨ZAB, rfl, ZAB, ⟨rfl, rfl, fun j hj => by simp only [Nat.zero_add, ZPW]⟩, trivial⟩
  | false =>
   rw [eb] at hen
   simp only [pick]
   conv => whnf
   refine g3 hst hlk hen ?_
   exact fA
 by_cases e3 : L.ss.st t = 3
 ·rw [e3] at hst
  simp only [Int.reduceEq, e3, decide_true, decide_false, pick]
  generalize mcUl nw tail t ta L s = r at hul ⊢
  have hen := ZAQ n r.2.1.ss.st r.2.1.ss.dl false true t r.1 ht hn
  cases eb : enB r.2.1.ss.st t r.1 with
  | true =>
   rw [eb] at hen
   simp only [pick, evD, eb]
   conv => whnf
   refine g3 hst hul hen ?_
   refine fQ ?_ ?_
   ·rfl
   ·exact ⟨ZAB, rfl, ZAB, ⟨rfl, rfl, fun j hj => by simp only [Nat.zero_add, ZPW]⟩, trivial⟩
  | false =>
   rw [eb] at hen
   simp only [pick, evD, eb]
   conv => whnf
   refine g3 hst hul hen ?_
   exact fA
 by_cases e4 : L.ss.st t = 4
 ·rw [e4] at hst
  by_cases ez : rdV nw (mcA tail (nm t)) s = 0
  ·have hen := ZAQ n L.ss.st L.ss.dl false true t 4 ht hn
   have eb : enB L.ss.st t 4 = true := by simp [enB, e4, ZCP, pick]
   rw [eb] at hen
   simp only [Int.reduceEq, e4, ez, eb, decide_true, decide_false, pick, evD]
   conv => whnf
   refine g4 hst hf hl hen ?_
   refine fQ ?_ ?_
   ·rfl
   ·exact ⟨ZAB, rfl, ZAB, ⟨rfl, rfl, fun j hj => by simp only [Nat.zero_add, ZPW]⟩, trivial⟩
  ·have hen := ZAQ n L.ss.st L.ss.dl false true t 5 ht hn
   have eb : enB L.ss.st t 5 = true := by simp [enB, e4, ZCP, pick]
   rw [eb] at hen
   simp only [Int.reduceEq, e4, ez, eb, decide_true, decide_false, pick, evD]
   conv => whnf
   refine g4 hst hf hl hen ?_
   refine fQ ?_ ?_
   ·rfl
   ·exact ⟨ZAB, rfl, ZAB, ⟨rfl, rfl, fun j hj => by simp only [Nat.zero_add, ZPW]⟩, trivial⟩
 ·have hen := ZAQ n L.ss.st L.ss.dl false true t 0 ht hn
  have eb : enB L.ss.st t 0 = false := by simp [enB, ZCP, pick, e1, e3, e4]
  rw [eb] at hen
  simp only [e1, e3, e4, eb, decide_false, pick, evD]
  conv => whnf
  refine g2 hst hen ?_
  exact fA
structure HL where
 ss : SS
 cl : Nat -> Int
 no : Nat -> Int
 ah : Nat -> Int
 la : Nat -> Int
 wo : Nat -> Int
 sp : Nat -> Int
def ZHC (n nt nw : Nat) (tail : Int) (hs : Nat -> Int) (L : HL) (s : PS) : Heap := (1, some (ZBC nt nw hs s)) :: ZCU n tail L.ss.st L.ss.dl L.cl L.no L.ah L.la L.wo L.sp
def hiA (tail k : Int) : Int := i64w (tail + 8 + k)
def hiS (n : Nat) (tail : Int) : Heap := [(0, some (.st [.p 2 0 0 0, .p 1 0 0 0, .v (.int .i64 tail), .s 3 6 0 n 0]))]
theorem ZE5 (n : Nat) (tail u : Int) (htl : 0 <= tail /\ tail <= 4096) :
  ZAE Tryz.prog 264 (hiS n tail) 4 [.l (.p 0 0 0 0), .l (.v (.int .i64 u))] fun x h m => x = sInt .i64 (hiA tail u) /\ m = 4 /\ h = hiS n tail := by
 refine sE Tryz.func264 ic264_eq [.t 4] fun G hP hA => ?_
 unfold evF ic264
 conv => whnf
 refine g0 ?_
 exact fA
def hiPk (c : Int) : Int := bitZ .or .u32 (min (max c 0) 1073741823 * 4) 2
def hiCl (w : Int) : Int := i64w (u32w (w.tdiv 4))
def hiWt (w : Int) : Bool := decide (bitZ .and .u32 w 2 ≠ 0)
def hiSp (w : Int) : Bool := decide (bitZ .and .u32 w 1 ≠ 0)
def hiFr (w : Int) : Int := bitZ .andNot .u32 w 2
def hiSl (w : Int) : Int := bitZ .or .u32 w 1
theorem ZNp (c : Int) : ZAE Tryz.prog 140 [] 0 [.l (.v (.int .i64 c)), .l (.v (.bool true)), .l (.v (.bool false))] fun x h n => x = sInt .u32 (hiPk c) /\ n = 0 /\ h = [] := by
 refine sE Tryz.func140 ic140_eq [.t 6] fun G hP hA => ?_
 unfold evF ic140
 conv => whnf
 refine g0 ?_
 exact fA
theorem ZNq (w : Int) : ZAE Tryz.prog 265 [] 0 [.l (.v (.int .u32 w))] fun x h n => x = sInt .i64 (hiCl w) /\ n = 0 /\ h = [] := by
 refine sE Tryz.func265 ic265_eq [.t 2] fun G hP hA => ?_
 unfold evF ic265
 conv => whnf
 refine g0 ?_
 exact fA
theorem ZJK (w : Int) : ZAE Tryz.prog 267 [] 0 [.l (.v (.int .u32 w))] fun x h n => x = ZAR (hiWt w) /\ n = 0 /\ h = [] := by
 refine sE Tryz.func267 ic267_eq [.t 2] fun G hP hA => ?_
 unfold evF ic267
 conv => whnf
 refine g0 ?_
 exact fA
theorem ZNr (w : Int) : ZAE Tryz.prog 266 [] 0 [.l (.v (.int .u32 w))] fun x h n => x = ZAR (hiSp w) /\ n = 0 /\ h = [] := by
 refine sE Tryz.func266 ic266_eq [.t 2] fun G hP hA => ?_
 unfold evF ic266
 conv => whnf
 refine g0 ?_
 exact fA
theorem ZNs (w : Int) : ZAE Tryz.prog 270 [] 0 [.l (.v (.int .u32 w))] fun x h n => x = sInt .u32 (hiFr w) /\ n = 0 /\ h = [] := by
 refine sE Tryz.func270 ic270_eq [.t 2] fun G hP hA => ?_
 unfold evF ic270
 conv => whnf
 refine g0 ?_
 exact fA
theorem ZNt (w : Int) : ZAE Tryz.prog 269 [] 0 [.l (.v (.int .u32 w))] fun x h n => x = sInt .u32 (hiSl w) /\ n = 0 /\ h = [] := by
 refine sE Tryz.func269 ic269_eq [.t 2] fun G hP hA => ?_
 unfold evF ic269
 conv => whnf
 refine g0 ?_
 exact fA
def hiO (tail c : Int) : Int := i64w (tail + 1 + c)
def hiLk (nw : Nat) (tail : Int) (t ta : Nat) (L : HL) (s : PS) : Dd × HL × PS :=
 let own := hiO tail (L.cl t)
 let w := rdV nw (hiA tail (L.ah t)) s
 pick (decide (L.sp t = 0)) (evD 0, ⟨L.ss, L.cl, L.no, L.ah, L.la, L.wo, updF L.sp t 1⟩, wtS nw ta (hiA tail (L.no t)) (hiPk (L.cl t)) s)
 (pick (decide (L.sp t = 1)) (⟨0, true, false, false⟩, ⟨L.ss, L.cl, L.no, updF L.ah t (i64w (rdV nw own s)), L.la, L.wo, updF L.sp t (pick (decide (i64w (rdV nw own s) = 0)) 3 2)⟩, wtS nw ta own (u32w (L.no t)) s)
 (pick (decide (L.sp t = 2)) (evD (pick (!decide (hiCl w = L.cl t) || hiSp w || hiWt w) 0 1), ⟨L.ss, L.cl, L.no, L.ah, L.la, L.wo, pick (!decide (hiCl w = L.cl t) || hiSp w) (updF L.sp t 3) (pick (hiWt w) L.sp (updF L.sp t 0))⟩, rdS nw ta (hiA tail (L.ah t)) s)
 (pick (decide (L.sp t = 3)) (evD 0, ⟨L.ss, L.cl, L.no, L.ah, updF L.la t (i64w (rdV nw own s)), L.wo, updF L.sp t 4⟩, rdS nw ta own s)
 (pick (decide (L.sp t = 4)) (⟨0, false, true, false⟩, ⟨L.ss, L.cl, L.no, updF L.ah t (i64w (rdV nw tail s)), L.la, L.wo, updF L.sp t 5⟩, wtS nw ta tail (u32w (L.la t)) s)
 (pick (decide (L.sp t = 5)) (evD 0, ⟨L.ss, L.cl, L.no, L.ah, L.la, updF L.wo t (rdV nw (hiA tail (L.la t)) s), updF L.sp t 6⟩, rdS nw ta (hiA tail (L.la t)) s)
 (pick (decide (L.sp t = 6)) (evD 0, ⟨L.ss, L.cl, L.no, L.ah, L.la, L.wo, updF L.sp t (pick (casB nw (hiA tail (L.la t)) (L.wo t) s) 7 5)⟩, casS nw ta (hiA tail (L.la t)) (L.wo t) (hiSl (L.wo t)) s)
 (pick (decide (L.sp t = 7)) (pick (hiWt w) (evD 0) ⟨1, false, false, true⟩, ⟨L.ss, L.cl, L.no, L.ah, L.la, L.wo, pick (hiWt w) L.sp (updF L.sp t 0)⟩, rdS nw ta (hiA tail (L.ah t)) s)
  (evD 0, L, s))))))))
def hiUl (nw : Nat) (tail : Int) (t ta : Nat) (L : HL) (s : PS) : Int × HL × PS :=
 let a := hiA tail (L.no t)
 pick (decide (L.sp t = 0)) (0, ⟨L.ss, L.cl, L.no, L.ah, L.la, updF L.wo t (rdV nw a s), updF L.sp t 1⟩, rdS nw ta a s)
  (pick (casB nw a (L.wo t) s) 3 0, ⟨L.ss, L.cl, pick (casB nw a (L.wo t) s) (updF L.no t (L.ah t)) L.no, L.ah, L.la, L.wo, updF L.sp t 0⟩, casS nw ta a (L.wo t) (hiFr (L.wo t)) s)
def ZJL (nw : Nat) (tail : Int) (t ta : Nat) (L : HL) (s : PS) : Dd × HL × PS :=
 pick (decide (L.ss.st t = 1)) (hiLk nw tail t ta L s) (pick (decide (L.ss.st t = 3)) (evD (hiUl nw tail t ta L s).1, (hiUl nw tail t ta L s).2) (evD 0, L, s))
def ZNu (t : Nat) (r : Dd × HL × PS) : Dd × HL × PS := (r.1, ⟨enSS r.2.1.ss t r.1.e, r.2.1.cl, r.2.1.no, r.2.1.ah, r.2.1.la, r.2.1.wo, r.2.1.sp⟩, r.2.2)
def ZBo (n nw : Nat) (tail : Int) (t : Int) (ta : Nat) (L : HL) (s : PS) : Dd × HL × PS :=
 match inW n t with | true => ZNu t.toNat (ZJL nw tail t.toNat ta L s) | false => (evD 0, L, s)
theorem ZEi (cl no ah la wo sp : Nat -> Int) (i : Nat) (v : Int) (j : Nat) : mrgL (j = i) (ZAI (ZCq cl no ah la wo sp j) 1 [.int .i64 v]) (ZCq cl no ah la wo sp j) = ZCq cl (updF no i v) ah la wo sp j := by
 simp only [ZCq, updF, ZAI, setL, mrgL, ZA0]
 by_cases h : j = i <;> simp [h]
theorem ZEj (cl no ah la wo sp : Nat -> Int) (i : Nat) (v : Int) (j : Nat) : mrgL (j = i) (ZAI (ZCq cl no ah la wo sp j) 2 [.int .i64 v]) (ZCq cl no ah la wo sp j) = ZCq cl no (updF ah i v) la wo sp j := by
 simp only [ZCq, updF, ZAI, setL, mrgL, ZA0]
 by_cases h : j = i <;> simp [h]
theorem ZEk (cl no ah la wo sp : Nat -> Int) (i : Nat) (v : Int) (j : Nat) : mrgL (j = i) (ZAI (ZCq cl no ah la wo sp j) 3 [.int .i64 v]) (ZCq cl no ah la wo sp j) = ZCq cl no ah (updF la i v) wo sp j := by
 simp only [ZCq, updF, ZAI, setL, mrgL, ZA0]
 by_cases h : j = i <;> simp [h]
theorem ZEl (cl no ah la wo sp : Nat -> Int) (i : Nat) (v : Int) (j : Nat) : mrgL (j = i) (ZAI (ZCq cl no ah la wo sp j) 4 [.int .u32 v]) (ZCq cl no ah la wo sp j) = ZCq cl no ah la (updF wo i v) sp j := by
 simp only [ZCq, updF, ZAI, setL, mrgL, ZA0]
 by_cases h : j = i <;> simp [h]
theorem ZES (cl no ah la wo sp : Nat -> Int) (i : Nat) (v : Int) (j : Nat) : mrgL (j = i) (ZAI (ZCq cl no ah la wo sp j) 5 [.int .i64 v]) (ZCq cl no ah la wo sp j) = ZCq cl no ah la wo (updF sp i v) j := by
 simp only [ZCq, updF, ZAI, setL, mrgL, ZA0]
 by_cases h : j = i <;> simp [h]
theorem ZJM (n t : Nat) (cl no ah la wo sp : Nat -> Int) (b : Bool) (ht : t < n) (hn : n <= 64) :
  ZAE Tryz.prog 268 [(0, some (.ar 6 n (ZCq cl no ah la wo sp)))] 1 [.l (.p 0 6 t 0), .l (.v (.bool b))] fun x h k => x = didO ⟨1, false, false, b⟩ /\ k = 1 /\ h = [(0, some (.ar 6 n (ZCq cl no ah la wo (updF sp t 0))))] := by
 refine sE Tryz.func268 ic268_eq [.ca 4 4] fun G hP hA => ?_
 unfold evF ic268
 conv => whnf
 refine g0 ?_
 refine fQ ?_ ?_
 ·rfl
 ·exact ⟨⟨rfl, rfl, fun j hj => by simp only [Nat.zero_add, ZES]⟩, trivial⟩
theorem ZNv (n nt nw t ta : Nat) (tail : Int) (hs : Nat -> Int) (L : HL) (s : PS) (ht : t < n) (hta : ta < nt) (hnt : nt <= 64) (hn : n <= 64) (hnw : nw <= 4096) (htl : 0 <= tail /\ tail <= 4096) :
  ZAE Tryz.prog 262 (ZHC n nt nw tail hs L s) 4 [.l (.p 0 0 0 0), .l (.p 3 6 t 0), .l (.v (.int .i64 ta))] fun x h k =>
   x = didO (hiLk nw tail t ta L s).1 /\ k = 4 /\ h = ZHC n nt nw tail hs (hiLk nw tail t ta L s).2.1 (hiLk nw tail t ta L s).2.2 := by
 refine sE Tryz.func262 ic262_eq [.ca 6 4] fun G hP hA => ?_
 unfold evF ic262 hiLk
 have fno := ZE5 n tail (L.no t) htl
 have fah := ZE5 n tail (L.ah t) htl
 have fla := ZE5 n tail (L.la t) htl
 have hpk := ZNp (L.cl t)
 by_cases e0 : L.sp t = 0
 ·have h1 := stS nt nw hs s ta (hiA tail (L.no t)) (hiPk (L.cl t)) hta hnt hnw
  simp only [e0, decide_true, decide_false, pick, Bool.not_true, Bool.not_false, Bool.true_or, Bool.or_true, Bool.false_or, Bool.or_false]
  conv => whnf
  refine g3 fno hpk h1 ?_
  refine fQ ?_ ?_
  ·rfl
  ·exact ⟨ZAB, rfl, ZAB, ⟨rfl, rfl, fun j hj => by simp only [Nat.zero_add, ZEi, ZEj, ZEk, ZEl, ZES, ZAs] <;> rfl⟩, trivial⟩
 by_cases e1 : L.sp t = 1
 ·have h1 := swS nt nw hs s ta (hiO tail (L.cl t)) (u32w (L.no t)) hta hnt hnw
  by_cases ez : i64w (rdV nw (hiO tail (L.cl t)) s) = 0
  ·have ez' : IntKind.i64.wrap (rdV nw (hiO tail (L.cl t)) s) = 0 := ez
   simp only [Int.reduceEq, e0, e1, ez, decide_true, decide_false, pick, Bool.not_true, Bool.not_false, Bool.true_or, Bool.or_true, Bool.false_or, Bool.or_false]
   conv => whnf
   refine g1 h1 ?_
   refine fQ ?_ ?_
   ·rfl
   ·exact ⟨ZAB, rfl, ZAB, ⟨rfl, rfl, fun j hj => by simp only [Nat.zero_add, ZEi, ZEj, ZEk, ZEl, ZES, ZAs, ez'] <;> rfl⟩, trivial⟩
  ·simp only [Int.reduceEq, e0, e1, ez, decide_true, decide_false, pick, Bool.not_true, Bool.not_false, Bool.true_or, Bool.or_true, Bool.false_or, Bool.or_false]
   conv => whnf
   refine g1 h1 ?_
   refine fQ ?_ ?_
   ·rfl
   ·exact ⟨ZAB, rfl, ZAB, ⟨rfl, rfl, fun j hj => by simp only [Nat.zero_add, ZEi, ZEj, ZEk, ZEl, ZES, ZAs] <;> rfl⟩, trivial⟩
 by_cases e2 : L.sp t = 2
 ·have h1 := ldS nt nw hs s ta (hiA tail (L.ah t)) hta hnt hnw
  have hcl := ZNq (rdV nw (hiA tail (L.ah t)) s)
  have hsp := ZNr (rdV nw (hiA tail (L.ah t)) s)
  have hwt := ZJK (rdV nw (hiA tail (L.ah t)) s)
  have hgr := ZJM n t L.cl L.no L.ah L.la L.wo L.sp false ht hn
  by_cases ez : hiCl (rdV nw (hiA tail (L.ah t)) s) = L.cl t
  ·cases eq : hiSp (rdV nw (hiA tail (L.ah t)) s) with
   | true =>
    rw [eq] at hsp
    simp only [Int.reduceEq, e0, e1, e2, ez, eq, decide_true, decide_false, pick, Bool.not_true, Bool.not_false, Bool.true_or, Bool.or_true, Bool.false_or, Bool.or_false]
    conv => whnf
    refine g5 fah h1 hcl hsp hwt ?_
    refine fQ ?_ ?_
    ·rfl
    ·exact ⟨ZAB, rfl, ZAB, ⟨rfl, rfl, fun j hj => by simp only [Nat.zero_add, ZEi, ZEj, ZEk, ZEl, ZES, ZAs] <;> rfl⟩, trivial⟩
   | false =>
    rw [eq] at hsp
    cases ew : hiWt (rdV nw (hiA tail (L.ah t)) s) with
    | true =>
     rw [ew] at hwt
     simp only [Int.reduceEq, e0, e1, e2, ez, eq, ew, decide_true, decide_false, pick, Bool.not_true, Bool.not_false, Bool.true_or, Bool.or_true, Bool.false_or, Bool.or_false]
     conv => whnf
     refine g6 fah h1 hcl hsp hwt hgr ?_
     exact fA
    | false =>
     rw [ew] at hwt
     simp only [Int.reduceEq, e0, e1, e2, ez, eq, ew, decide_true, decide_false, pick, Bool.not_true, Bool.not_false, Bool.true_or, Bool.or_true, Bool.false_or, Bool.or_false]
     conv => whnf
     refine g6 fah h1 hcl hsp hwt hgr ?_
     refine fQ ?_ ?_
     ·rfl
     ·exact ⟨ZAB, rfl, ZAB, ⟨rfl, rfl, fun j hj => by simp only [Nat.zero_add, ZEi, ZEj, ZEk, ZEl, ZES, ZAs] <;> rfl⟩, trivial⟩
  ·simp only [Int.reduceEq, e0, e1, e2, ez, decide_true, decide_false, pick, Bool.not_true, Bool.not_false, Bool.true_or, Bool.or_true, Bool.false_or, Bool.or_false]
   conv => whnf
   refine g5 fah h1 hcl hsp hwt ?_
   refine fQ ?_ ?_
   ·rfl
   ·exact ⟨ZAB, rfl, ZAB, ⟨rfl, rfl, fun j hj => by simp only [Nat.zero_add, ZEi, ZEj, ZEk, ZEl, ZES, ZAs] <;> rfl⟩, trivial⟩
 by_cases e3 : L.sp t = 3
 ·have h1 := ldS nt nw hs s ta (hiO tail (L.cl t)) hta hnt hnw
  simp only [Int.reduceEq, e0, e1, e2, e3, decide_true, decide_false, pick, Bool.not_true, Bool.not_false, Bool.true_or, Bool.or_true, Bool.false_or, Bool.or_false]
  conv => whnf
  refine g1 h1 ?_
  refine fQ ?_ ?_
  ·rfl
  ·exact ⟨ZAB, rfl, ZAB, ⟨rfl, rfl, fun j hj => by simp only [Nat.zero_add, ZEi, ZEj, ZEk, ZEl, ZES, ZAs] <;> rfl⟩, trivial⟩
 by_cases e4 : L.sp t = 4
 ·have h1 := swS nt nw hs s ta tail (u32w (L.la t)) hta hnt hnw
  simp only [Int.reduceEq, e0, e1, e2, e3, e4, decide_true, decide_false, pick, Bool.not_true, Bool.not_false, Bool.true_or, Bool.or_true, Bool.false_or, Bool.or_false]
  conv => whnf
  refine g1 h1 ?_
  refine fQ ?_ ?_
  ·rfl
  ·exact ⟨ZAB, rfl, ZAB, ⟨rfl, rfl, fun j hj => by simp only [Nat.zero_add, ZEi, ZEj, ZEk, ZEl, ZES, ZAs] <;> rfl⟩, trivial⟩
 by_cases e5 : L.sp t = 5
 ·have h1 := ldS nt nw hs s ta (hiA tail (L.la t)) hta hnt hnw
  simp only [Int.reduceEq, e0, e1, e2, e3, e4, e5, decide_true, decide_false, pick, Bool.not_true, Bool.not_false, Bool.true_or, Bool.or_true, Bool.false_or, Bool.or_false]
  conv => whnf
  refine g2 fla h1 ?_
  refine fQ ?_ ?_
  ·rfl
  ·exact ⟨ZAB, rfl, ZAB, ⟨rfl, rfl, fun j hj => by simp only [Nat.zero_add, ZEi, ZEj, ZEk, ZEl, ZES, ZAs] <;> rfl⟩, trivial⟩
 by_cases e6 : L.sp t = 6
 ·have h1 := caS nt nw hs s ta (hiA tail (L.la t)) (L.wo t) (hiSl (L.wo t)) hta hnt hnw
  have hsl := ZNt (L.wo t)
  cases ec : casB nw (hiA tail (L.la t)) (L.wo t) s with
  | true =>
   rw [ec] at h1
   simp only [Int.reduceEq, e0, e1, e2, e3, e4, e5, e6, ec, decide_true, decide_false, pick, Bool.not_true, Bool.not_false, Bool.true_or, Bool.or_true, Bool.false_or, Bool.or_false]
   conv => whnf
   refine g3 fla hsl h1 ?_
   refine fQ ?_ ?_
   ·rfl
   ·exact ⟨ZAB, rfl, ZAB, ⟨rfl, rfl, fun j hj => by simp only [Nat.zero_add, ZEi, ZEj, ZEk, ZEl, ZES, ZAs] <;> rfl⟩, trivial⟩
  | false =>
   rw [ec] at h1
   simp only [Int.reduceEq, e0, e1, e2, e3, e4, e5, e6, ec, decide_true, decide_false, pick, Bool.not_true, Bool.not_false, Bool.true_or, Bool.or_true, Bool.false_or, Bool.or_false]
   conv => whnf
   refine g3 fla hsl h1 ?_
   refine fQ ?_ ?_
   ·rfl
   ·exact ⟨ZAB, rfl, ZAB, ⟨rfl, rfl, fun j hj => by simp only [Nat.zero_add, ZEi, ZEj, ZEk, ZEl, ZES, ZAs] <;> rfl⟩, trivial⟩
 by_cases e7 : L.sp t = 7
 ·have h1 := ldS nt nw hs s ta (hiA tail (L.ah t)) hta hnt hnw
  have hwt := ZJK (rdV nw (hiA tail (L.ah t)) s)
  have hgr := ZJM n t L.cl L.no L.ah L.la L.wo L.sp true ht hn
  cases ew : hiWt (rdV nw (hiA tail (L.ah t)) s) with
  | true =>
   rw [ew] at hwt
   simp only [Int.reduceEq, e0, e1, e2, e3, e4, e5, e6, e7, ew, decide_true, decide_false, pick, Bool.not_true, Bool.not_false, Bool.true_or, Bool.or_true, Bool.false_or, Bool.or_false]
   conv => whnf
   refine g4 fah h1 hwt hgr ?_
   exact fA
  | false =>
   rw [ew] at hwt
   simp only [Int.reduceEq, e0, e1, e2, e3, e4, e5, e6, e7, ew, decide_true, decide_false, pick, Bool.not_true, Bool.not_false, Bool.true_or, Bool.or_true, Bool.false_or, Bool.or_false]
   conv => whnf
   refine g4 fah h1 hwt hgr ?_
   refine fQ ?_ ?_
   ·rfl
   ·exact ⟨ZAB, rfl, ZAB, ⟨rfl, rfl, fun j hj => by simp only [Nat.zero_add, ZEi, ZEj, ZEk, ZEl, ZES, ZAs] <;> rfl⟩, trivial⟩
 ·simp only [e0, e1, e2, e3, e4, e5, e6, e7, decide_true, decide_false, pick, Bool.not_true, Bool.not_false, Bool.true_or, Bool.or_true, Bool.false_or, Bool.or_false]
  conv => whnf
  refine g0 ?_
  exact fA
theorem ZNw (n nt nw t ta : Nat) (tail : Int) (hs : Nat -> Int) (L : HL) (s : PS) (ht : t < n) (hta : ta < nt) (hnt : nt <= 64) (hn : n <= 64) (hnw : nw <= 4096) (htl : 0 <= tail /\ tail <= 4096) :
  ZAE Tryz.prog 263 (ZHC n nt nw tail hs L s) 4 [.l (.p 0 0 0 0), .l (.p 3 6 t 0), .l (.v (.int .i64 ta))] fun x h k =>
   x = sInt .i64 (hiUl nw tail t ta L s).1 /\ k = 4 /\ h = ZHC n nt nw tail hs (hiUl nw tail t ta L s).2.1 (hiUl nw tail t ta L s).2.2 := by
 refine sE Tryz.func263 ic263_eq [.t 6] fun G hP hA => ?_
 unfold evF ic263 hiUl
 have fno := ZE5 n tail (L.no t) htl
 have hfr := ZNs (L.wo t)
 by_cases e0 : L.sp t = 0
 ·have h1 := ldS nt nw hs s ta (hiA tail (L.no t)) hta hnt hnw
  simp only [e0, decide_true, pick]
  conv => whnf
  refine g2 fno h1 ?_
  refine fQ ?_ ?_
  ·rfl
  ·exact ⟨ZAB, rfl, ZAB, ⟨rfl, rfl, fun j hj => by simp only [Nat.zero_add, ZEi, ZEj, ZEk, ZEl, ZES, ZAs] <;> rfl⟩, trivial⟩
 ·have h1 := caS nt nw hs s ta (hiA tail (L.no t)) (L.wo t) (hiFr (L.wo t)) hta hnt hnw
  cases ec : casB nw (hiA tail (L.no t)) (L.wo t) s with
  | true =>
   rw [ec] at h1
   simp only [e0, ec, decide_false, pick]
   conv => whnf
   refine g3 fno hfr h1 ?_
   refine fQ ?_ ?_
   ·rfl
   ·exact ⟨ZAB, rfl, ZAB, ⟨rfl, rfl, fun j hj => by simp only [Nat.zero_add, ZEi, ZEj, ZEk, ZEl, ZES, ZAs] <;> rfl⟩, trivial⟩
  | false =>
   rw [ec] at h1
   simp only [e0, ec, decide_false, pick]
   conv => whnf
   refine g3 fno hfr h1 ?_
   refine fQ ?_ ?_
   ·rfl
   ·exact ⟨ZAB, rfl, ZAB, ⟨rfl, rfl, fun j hj => by simp only [Nat.zero_add, ZEi, ZEj, ZEk, ZEl, ZES, ZAs] <;> rfl⟩, trivial⟩
theorem ZNx (n nt nw t ta : Nat) (tail now : Int) (hs : Nat -> Int) (L : HL) (s : PS) (ht : t < n) (hta : ta < nt) (hnt : nt <= 64) (hn : n <= 64) (hnw : nw <= 4096) (htl : 0 <= tail /\ tail <= 4096) :
  ZAE Tryz.prog 260 (ZHC n nt nw tail hs L s) 4 [.l (.p 0 0 0 0), .l (.v (.int .i64 t)), .l (.v (.int .i64 ta)), .l (.v (.int .i64 now))] fun x h k =>
   x = didO (ZNu t (ZJL nw tail t ta L s)).1 /\ k = 4 /\ h = ZHC n nt nw tail hs (ZNu t (ZJL nw tail t ta L s)).2.1 (ZNu t (ZJL nw tail t ta L s)).2.2 := by
 have hst := ZAy n L.ss.st L.ss.dl false false t ht hn
 have hlk := ZNv n nt nw t ta tail hs L s ht hta hnt hn hnw htl
 have hul := ZNw n nt nw t ta tail hs L s ht hta hnt hn hnw htl
 refine sE Tryz.func260 ic260_eq [.ca 8 4] fun G hP hA => ?_
 unfold evF ic260 ZJL ZNu
 by_cases e1 : L.ss.st t = 1
 ·rw [e1] at hst
  simp only [e1, decide_true, pick]
  generalize hiLk nw tail t ta L s = r at hlk ⊢
  have hen := ZAQ n r.2.1.ss.st r.2.1.ss.dl false false t r.1.e ht hn
  conv => whnf
  refine g3 hst hlk hen ?_
  exact fA
 by_cases e3 : L.ss.st t = 3
 ·rw [e3] at hst
  simp only [Int.reduceEq, e3, decide_true, decide_false, pick]
  generalize hiUl nw tail t ta L s = r at hul ⊢
  have hen := ZAQ n r.2.1.ss.st r.2.1.ss.dl false false t r.1 ht hn
  conv => whnf
  refine g3 hst hul hen ?_
  exact fA
 ·have hen := ZAQ n L.ss.st L.ss.dl false false t 0 ht hn
  simp only [e1, e3, decide_false, pick]
  conv => whnf
  refine g2 hst hen ?_
  exact fA
theorem ZAE.sup {P : Program} {f : FuncId} {α : Type} {k : Nat} {ks : List Nat} {R : α -> List Go.Sx.Loc -> Go.Sx.Loc -> List Nat -> World -> Prop} {h : Heap} {np : Nat} {args : List AV} {Q : SV -> Heap -> Nat -> Prop} (hb : ZCS P f = true) (hs : ∀ a ls, ZDb (R a ls))
  (hk : hget h k = some (.ob ks fun ls l F w => ∃ a, R a ls l F w)) (H : ∀ a, ZAE P f ((k, some (.ob ks (R a))) :: h) np args Q) : ZAE P f h np args Q := by
 refine ⟨hb, fun ρ φ w hm hok hgw hgf => ?_⟩
 obtain ⟨s1, s2, a, s3⟩ := hm.at_ k _ hk
 have hm2 := ZHs hm hk rfl (e' := .ob ks (R a)) ⟨hs a _, s2, s3⟩
 have own : ∀ b, Own ((k, some (.ob ks (R a))) :: h) φ b -> Own h φ b := fun b ⟨j, e, hj, ho, hb⟩ => by
  rw [ZAJ] at hj
  split at hj
  ·rename_i hh; subst hh; exact ⟨k, _, hk, rfl, hb⟩
  ·exact ⟨j, e, hj, ho, hb⟩
 refine ((H a).2 ρ φ w hm2 hok hgw fun b vs hb ho => hgf b vs hb (own b ho)).mono fun e w' ⟨x, h', n', ρ', φ', q1, q2, q3, q4, q5, q6, q7, q8⟩ =>
  ⟨x, h', n', ρ', φ', q1, q2, q3, q4, q5, q6, ⟨q7.size, fun b hb hn => q7.blk b hb fun ho => hn (own b ho), q7.os, q7.tape, q7.output⟩, fun j e' hj ho b hb => ?_⟩
 rcases q8 j e' hj ho b hb with h1 | h1
 ·exact .inl (own b h1)
 ·exact .inr h1
theorem ZH7 (E T : Nat) (row : Nat -> Nat -> List Value) (val : Nat -> Value) (t : Nat) (ht : t < T) (hE : E <= 1000000) :
  ZAE Tryz.prog 159 [(0, some (.ob [] (ZEw E row T val)))] 1 [.l (.v (val t))] fun x h n => x = .o (.l (.s 1 1 0 E 0)) /\ n = 2 /\ h = [(0, some (.ob [] (ZEw E row T val))), (1, some (.ar 1 E (row t)))] := by
 have hc := ZGf (row t) E hE
 refine ⟨hc.1, fun ρ φ w hm hok hgw hgf => ?_⟩
 obtain ⟨s1, s2, L, Fs, s3, s4⟩ := hm.at_ 0 _ rfl
 obtain ⟨v1, v2⟩ := s3 t ht
 have hsz : ∀ b ∈ φ 0, b < w.heap.size := hm.sz 0 _ rfl
 have hm1 : HM [(0, some (.ro 1 E (row t)))] (lt 1) (fun _ => L t) (fun _ => Fs t) w := by
  refine ⟨fun k e hk => ?_, fun k e hk => ?_, fun k k' e e' hk hk' hne ho => ?_, fun k e hk b hb => ?_⟩
  ·rw [ZAJ] at hk
   split at hk
   ·cases hk
    exact ZCe.at_ (ι := id) (e' := .ar 1 E (row t)) (ρ := fun _ => L t) (D := lt 1) (D' := lt 1) ⟨rfl, Nat.le_refl _, fun _ _ => rfl⟩ (fun _ h => h) v2
   ·cases hk
  ·rw [ZAJ] at hk
   split at hk
   ·rename_i hh; subst hh; exact Nat.zero_lt_one
   ·cases hk
  ·rw [ZAJ] at hk
   split at hk
   ·cases hk; cases ho
   ·cases hk
  ·rw [ZAJ] at hk
   split at hk
   ·cases hk; exact hsz b ((s4 b).2 ⟨t, ht, hb⟩)
   ·cases hk
 have hargs : [AV.l (LV.v (val t))].map (AV.at ρ) = [AV.l (LV.s 0 1 0 E 0)].map (AV.at fun _ => L t) := by
  show [val t] = [(LV.s 0 1 0 E 0).at fun _ => L t]
  rw [v1]
 rw [hargs]
 have hoks : ∀ x ∈ [AV.l (LV.s 0 1 0 E 0)], x.ok (fun _ => L t) (lt 1) := fun x hx => by
  simp only [List.mem_singleton] at hx
  subst hx
  refine ⟨Nat.zero_lt_one, fun hn => ?_, fun hn => ⟨?_, .inl (dof0 _ _), Nat.le_refl _⟩⟩
  ·rcases v2 with ⟨_, h, _⟩ | ⟨h, _⟩
   ·exact h
   ·rw [hn] at h; cases h
  ·rcases v2 with ⟨h, _⟩ | ⟨_, _, _, h, _⟩
   ·rw [hn] at h; cases h
   ·rw [Nat.zero_add]; exact h
 have noown : ∀ b, ¬ Own [(0, some (Ent.ro 1 E (row t)))] (fun _ => Fs t) b := fun b ⟨k, e, hk, ho, hb⟩ => by
  rw [ZAJ] at hk
  split at hk
  ·cases hk; cases ho
  ·cases hk
 refine (hc.2 _ _ w hm1 hoks hgw fun b vs hb ho => absurd ho (noown b)).mono fun e w' ⟨x, h', n', ρ', φ', q1, ⟨qx, qn, qh⟩, q3, q4, q5, q6, q7, q8⟩ => ?_
 subst qx qn qh
 have hfresh : ∀ b ∈ φ' 1, w.heap.size <= b := fun b hb => by
  rcases q8 1 _ rfl rfl b hb with h1 | h1
  ·exact absurd h1 (noown b)
  ·exact h1
 have hkeep : ∀ b ∈ φ 0, w'.heap[b]? = w.heap[b]? := fun b hb => q7.blk b (hsz b hb) (noown b)
 refine ⟨_, _, 2, fun k => if k = 0 then ρ 0 else ρ' k, fun k => if k = 0 then φ 0 else φ' k, ?_, ⟨rfl, rfl, rfl⟩, by omega, fun k hk => ?_, ⟨fun k e hk => ?_, fun k e hk => ?_, fun k k' e e' hk hk' hne ho b hb hb' => ?_, fun k e hk b hb => ?_⟩, ?_, ⟨q7.size, fun b hb _ => q7.blk b hb (noown b), q7.os, q7.tape, q7.output⟩, fun k e hk ho b hb => ?_⟩
 ·rw [q1]
  exact congrArg Ending.returned (show (LV.s 1 1 0 E 0).at ρ' = (LV.s 1 1 0 E 0).at (fun k => if k = 0 then ρ 0 else ρ' k) from rfl)
 ·obtain rfl : k = 0 := by omega
  rfl
 ·rw [ZAJ] at hk
  split at hk
  ·rename_i hh; subst hh; cases hk
   exact ⟨ZB4 _ _ _ _ _, fun k hk => (by cases hk), ZB4 _ _ _ _ _ _ _ _ _ ⟨L, Fs, s3, s4⟩ hkeep⟩
  ·rename_i hh
   rw [ZAJ] at hk
   split at hk
   ·rename_i h1; subst h1; cases hk
    exact q5.at_ 1 _ rfl
   ·cases hk
 ·rw [ZAJ] at hk
  split at hk
  ·rename_i hh; subst hh; exact Nat.zero_lt_two
  ·rw [ZAJ] at hk
   split at hk
   ·rename_i h1; subst h1; exact Nat.one_lt_two
   ·cases hk
 ·have c1 : ∀ j ej, hget [(0, some (Ent.ob [] (ZEw E row T val))), (1, some (Ent.ar 1 E (row t)))] j = some ej -> j = 0 \/ j = 1 := fun j ej hj => by
   rw [ZAJ] at hj
   split at hj
   ·rename_i hh; exact .inl hh.symm
   ·rw [ZAJ] at hj
    split at hj
    ·rename_i h1; exact .inr h1.symm
    ·cases hj
  rcases c1 k e hk with rfl | rfl <;> rcases c1 k' e' hk' with rfl | rfl
  ·exact hne rfl
  ·have h1 := hsz b hb
   have h2 := hfresh b hb'
   omega
  ·have h1 := hsz b hb'
   have h2 := hfresh b hb
   omega
  ·exact hne rfl
 ·rw [ZAJ] at hk
  split at hk
  ·rename_i hh; subst hh
   exact Nat.lt_of_lt_of_le (hsz b hb) q7.size
  ·rename_i hh
   rw [ZAJ] at hk
   split at hk
   ·rename_i h1; subst h1; cases hk
    exact q5.sz 1 _ rfl b hb
   ·cases hk
 ·have := q6
  exact this
 ·rw [ZAJ] at hk
  split at hk
  ·rename_i hh; subst hh; cases hk
   exact .inl ⟨0, _, rfl, rfl, hb⟩
  ·rename_i hh
   rw [ZAJ] at hk
   split at hk
   ·rename_i h1; subst h1; cases hk
    exact .inr (hfresh b hb)
   ·cases hk
def ZFw (T E : Nat) (val : Nat -> Value) : Heap := [(0, some (.st [.s 1 1 0 T 0, .s 2 1 0 (outN T E) 0])), (1, some (.ar 1 T fun j => [val j])), (2, some (.ar 1 (outN T E) (ZIa fun _ => false))), (4, some (.ob [] (ZEw E (rowE E) T val)))]
def ZNy (T E : Nat) : List Go.Sx.Loc -> Go.Sx.Loc -> List Nat -> World -> Prop := fun ls l F w => ∃ val, ZAl (ZFw T E val) 5 ls l F w
def ZNz (T E : Nat) : Ent := .ob [] (ZNy T E)
theorem ZE6 (T E : Nat) (ls : List Go.Sx.Loc) : ZDb (ZNy T E ls) := fun l F w w' ⟨val, h⟩ hw => ⟨val, ZB3 _ _ _ l F w w' h hw⟩
theorem ZN0 {T E : Nat} (hT : 1 <= T) {ls : List Go.Sx.Loc} {l : Go.Sx.Loc} {F : List Nat} {w : World} (h : ZQ8 T E ls l F w) : ZNy T E ls l F w := by
 obtain ⟨val, ρ, φ, p1, p2, hm, p3⟩ := h
 have A := hm.at_ 3 _ rfl
 obtain ⟨Z1, Z2, L, Fs, Z3, Z4⟩ := hm.at_ 4 _ rfl
 have he : ZBl (.ob [] (ZEw E (rowE E) T fun j => if j = T - 1 then (LV.s 3 1 0 E 0).at ρ else val j)) ρ (lt 5) (ρ 4) (φ 4 ++ φ 3) w := by
  refine ⟨ZB4 _ _ _ _ _, fun k hk => (by cases hk), fun j => if j = T - 1 then ρ 3 else L j, fun j => if j = T - 1 then φ 3 else Fs j, fun j hj => ?_, fun b => ?_⟩
  ·by_cases hja : j = T - 1
   ·subst hja
    simp only [if_true]
    exact ⟨rfl, A⟩
   ·simp only [hja, if_false]
    exact Z3 j (by omega)
  ·rw [List.mem_append, Z4 b]
   constructor
   ·rintro (⟨j, hj, hb⟩ | hb)
    ·exact ⟨j, by omega, by simp only [if_neg (show ¬ j = T - 1 by omega)]; exact hb⟩
    ·exact ⟨T - 1, by omega, by simp only [if_true]; exact hb⟩
   ·rintro ⟨j, hj, hb⟩
    by_cases hja : j = T - 1
    ·subst hja
     simp only [if_true] at hb; exact .inr hb
    ·simp only [if_neg hja] at hb; exact .inl ⟨j, by omega, hb⟩
 have hm1 := ZMF (k := 3) (kz := 4) hm (by decide) (hk := rfl) rfl (hz := rfl) rfl he
 obtain ⟨⟨c1, c2, c3, c4, c5⟩, ⟨c6, _⟩, cs, t, c7, c8, c9⟩ := hm1.at_ 1 _ rfl
 have hm2 := ZHs hm1 (k := 1) rfl rfl (e' := .ar 1 T fun j => [if j = T - 1 then (LV.s 3 1 0 E 0).at ρ else val j]) (.inr ⟨c1, c2.1 ▸ c2, c3, c4, c5, cs, t, c7, c8, fun i hi => by
  obtain ⟨d1, d2⟩ := c9 i hi
  have e0 : (if i = T - 1 then (LV.s 3 1 0 E 0).at ρ else ZLC (T - 1) val i) = (if i = T - 1 then (LV.s 3 1 0 E 0).at ρ else val i) := by
   by_cases h1 : i = T - 1
   ·simp only [h1, if_true]
   ·simp only [h1, if_false, ZLC, if_pos (show i < T - 1 by omega)]
  rw [e0] at d1 d2
  refine ⟨rfl, fun x hx => ?_, fun j hj => ?_⟩
  ·simp only [List.mem_singleton] at hx
   subst hx; exact d2
  ·obtain rfl : j = 0 := by omega
   rw [Nat.mul_one, Nat.add_zero]
   exact d1⟩)
 have hm3 := ZO8 (h' := ZFw T E fun j => if j = T - 1 then (LV.s 3 1 0 E 0).at ρ else val j) [0, 1, 2, 3, 4] hm2 rfl ⟨rfl, ⟨rfl, rfl, fun _ _ => rfl⟩, ⟨rfl, rfl, fun _ _ => rfl⟩, ⟨rfl, .inl rfl⟩, trivial⟩ rfl
 have hr : ∀ k, k < 5 -> ren1 [0, 1, 2, 3, 4] 5 k = k := by decide
 have hm4 : HM (ZFw T E fun j => if j = T - 1 then (LV.s 3 1 0 E 0).at ρ else val j) (lt 5) ρ (fun j => if j = 4 then φ 4 ++ φ 3 else φ j) w := by
  refine ⟨fun k e hk => ?_, hm3.lt, fun k k' e e' hk hk' hne ho b hb hb' => ?_, fun k e hk b hb => ?_⟩
  ·have h1 := hm3.at_ k e hk
   have h2 := hr k (hm3.lt k e hk)
   simp only [h2] at h1
   exact ZBl.mono (fun k hk => by simp only [hr k hk]) (fun _ h => h) (fun _ _ => rfl) h1
  ·have h1 := hm3.dj k k' e e' hk hk' hne ho b
   rw [hr k (hm3.lt k e hk), hr k' (hm3.lt k' e' hk')] at h1
   exact h1 hb hb'
  ·have h1 := hm3.sz k e hk b
   rw [hr k (hm3.lt k e hk)] at h1
   exact h1 hb
 refine ⟨_, ρ, _, p1, p2, hm4, fun b => ?_⟩
 rw [p3 b]
 constructor
 ·rintro ⟨k, e, hk, hb⟩
  have h5 := hm.lt k e hk
  by_cases h3 : k = 3
  ·subst h3
   exact ⟨4, _, rfl, by simp only [if_true]; exact List.mem_append.2 (.inr hb)⟩
  by_cases h4 : k = 4
  ·subst h4
   exact ⟨4, _, rfl, by simp only [if_true]; exact List.mem_append.2 (.inl hb)⟩
  ·rcases (show k = 0 \/ k = 1 \/ k = 2 by have : k < 5 := h5; omega) with rfl | rfl | rfl
   ·exact ⟨0, _, rfl, hb⟩
   ·exact ⟨1, _, rfl, hb⟩
   ·exact ⟨2, _, rfl, hb⟩
 ·rintro ⟨k, e, hk, hb⟩
  have h5 := hm4.lt k e hk
  by_cases h4 : k = 4
  ·subst h4
   simp only [if_true] at hb
   rcases List.mem_append.1 hb with hb | hb
   ·exact ⟨4, _, rfl, hb⟩
   ·exact ⟨3, _, rfl, hb⟩
  ·simp only [if_neg h4] at hb
   rcases (show k = 0 \/ k = 1 \/ k = 2 \/ k = 3 by have : k < 5 := h5; omega) with rfl | rfl | rfl | rfl
   ·exact ⟨0, _, rfl, hb⟩
   ·exact ⟨1, _, rfl, hb⟩
   ·exact ⟨2, _, rfl, hb⟩
   ·cases hk
theorem ZMX (T E : Nat) (val : Nat -> Value) (t : Nat) (ht : t < T) (hT : T <= 64) (hE : E <= 8) :
  ZAE Tryz.prog 256 (ZFw T E val) 5 [.l (.p 0 0 0 0), .l (.v (.int .i64 t))] fun x h k => x = .o (.l (.s 5 1 0 E 0)) /\ k = 6 /\ h = (5, some (.ar 1 E (rowE E t))) :: ZFw T E val := by
 have hc := ZH7 E T (rowE E) val t ht (by omega)
 refine sE Tryz.func256 ic256_eq [.t 4] fun G hP hA => ?_
 unfold evF ic256
 cases hv : val t
 all_goals
  rw [hv, <- hP] at hc
  conv => whnf
  refine g0 ?_
  rw [hv]
  conv => whnf
  refine ZGN hc [4] rfl rfl rfl ⟨⟨rfl, .inl rfl⟩, trivial⟩ rfl rfl ?_
  conv => whnf
  refine ZCl [0, 1, 2, 3, 4, 5] _ _ 6 rfl ⟨rfl, rfl, rfl⟩ rfl rfl rfl ?_ rfl
  exact ZAB
theorem ZJN (T E t : Nat) (ht : t < T) (hT : T <= 64) (hE : E <= 8) :
  ZAE Tryz.prog 256 [(0, some (ZNz T E))] 1 [.l (.p 0 0 0 0), .l (.v (.int .i64 t))] fun x h k => x = .o (.l (.s 1 1 0 E 0)) /\ k = 2 /\ h = [(0, some (ZNz T E)), (1, some (.ar 1 E (rowE E t)))] := by
 refine ZAE.sup (k := 0) (by kernel_rfl) (fun val ls => ZB3 (ZFw T E val) 5 ls) rfl fun val => ?_
 have h1 := ZMX T E val t ht hT hE
 refine ZAE.refin (ZAE.ghost (ZAS 0 (ks := []) (H := ZFw T E val) (np := 5) rfl (by decide) rfl rfl rfl) (ZAE.pre h1 ?_)) ?_
 ·exact ZAB
 ·rintro x h n ⟨rfl, rfl, rfl⟩ _
  refine ZBH (ZDF [0, 1, 2, 3, 4] (H := ZFw T E val) (np := 5) 0 rfl (by decide) rfl rfl ?_ rfl) (by decide) ?_
  ·exact ZAB
  conv => whnf
  refine fQ ?_ ?_
  ·rfl
  ·exact ⟨⟨rfl, .inr ⟨fun ls => ZE6 _ _ _, fun ls l F w hh => ⟨val, hh⟩⟩⟩, ZAB, trivial⟩
end Go.Proofs.YtlkfolopbehikaaGreat
