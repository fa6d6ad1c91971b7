/- part · part · part · part · part · part · part · part · part · part · part · part · part · part · part · part · part · part · part · part · part · part · part · part · part · part · part · part · part · part · part · part · part -/
import Derived.Test.YtlkfolopbehikaaGreatFa
import Derived.Test.YtlkfolopbehikaaGreatMb
import Derived.Test.YtlkfolopbehikaaGreatMc
import Derived.Test.YtlkfolopbehikaaGreatSxV
set_option linter.unusedSimpArgs false
set_option linter.unusedVariables false
set_option maxHeartbeats 8000000
set_option maxRecDepth 8000
namespace Go.Proofs.YtlkfolopbehikaaGreat
open Go Go.Sx
def clamp (n : Int) : Int := min (max n 0) 64
theorem ZNc (n : Int) (q : Nat) (hq : clamp n = q) (hq2 : q <= 64) : ZAE Tryz.prog 92 [] 0 [.l (.v (.int .i64 n))] fun x h k => x = .o (.l (.p 0 0 0 0)) /\ k = 2 /\ h = [(0, some (.st [.s 1 1 0 q 0, .v (.slice none 0 0)])), (1, some (.ar 1 q (numE fun _ => 0)))] := by
 refine sE Tryz.func92 ic92_eq [.t 2] fun G hP hA => ?_
 unfold evF ic92
 conv => whnf
 rw [show min (max n 0) 64 = (q : Int) from hq]
 refine zP ?_
 exact fA
theorem ZMT (n : Int) (q : Nat) (hq : clamp n = q) (hq2 : q <= 64) : ZAE Tryz.prog 92 [] 0 [.l (.v (.int .i64 n))] fun x h k => x = .o (.l (.p 0 0 0 0)) /\ k = 3 /\ h = [(0, some (.st [.s 1 1 0 q 0, .s 2 1 0 0 0])), (1, some (.ar 1 q (numE fun _ => 0))), (2, some (.ar 1 0 (numE fun _ => 0)))] := by
 refine ZAE.nil_cell (ZNc n q hq hq2) fun x h k hx => ?_
 obtain ⟨rfl, rfl, rfl⟩ := hx
 refine ⟨0, _, [.s 1 1 0 q 0, .s 2 1 0 0 0], 1, numE fun _ => 0, _, rfl, by omega, fun ρ h => ?_, fun ρ D hD h hc x hx => ?_, fun j => ?_, rfl, rfl, rfl⟩
 ·simp [LV.at, h]
 ·simp at hx
  rcases hx with rfl | rfl
  ·exact hc _ (by simp)
  ·exact ⟨hD, fun _ => rfl, fun hh => by rw [h] at hh; cases hh⟩
 ·simp only [ZAJ]
  by_cases h0 : 0 = j
  ·simp [h0]
  ·by_cases h1 : 1 = j
   ·subst h1; simp
   ·by_cases h2 : 2 = j
    ·subst h2; simp
    ·simp [h0, h1, h2]
def nxt (s k : Int) : Int := if k = 1 /\ s = 0 then 1 else if k = 2 /\ s = 1 then 2 else if k = 4 /\ s = 2 then 3 else if (k = 5 /\ (s = 1 \/ s = 2)) \/ (k = 8 /\ s = 1) \/ (k = 7 /\ s = 4) then 0 else if k = 6 /\ s = 3 then 4 else -1
theorem ZKX (s k : Int) : ZAE Tryz.prog 122 [] 0 [.l (.v (.int .i64 s)), .l (.v (.int .i64 k))] fun x h n => x = sInt .i64 (nxt s k) /\ n = 0 /\ h = [] := by
 refine sE Tryz.func122 ic122_eq [.t 4] fun G hP hA => ?_
 unfold evF ic122
 rcases (show k = 1 \/ k = 2 \/ k = 4 \/ k = 5 \/ k = 8 \/ k = 7 \/ k = 6 \/ (k ≠ 1 /\ k ≠ 2 /\ k ≠ 4 /\ k ≠ 5 /\ k ≠ 8 /\ k ≠ 7 /\ k ≠ 6) by omega) with rfl | rfl | rfl | rfl | rfl | rfl | rfl | ⟨h1, h2, h4, h5, h8, h7, h6⟩
 ·conv => whnf
  (repeat' (first | (refine ZAH ?_; conv => whnf) | (refine dsplit (fun _ => ?_) (fun _ => ?_) <;> conv => whnf)))
  all_goals ((refine fI ?_); unfold nxt; (repeat' split) <;> omega)
 ·conv => whnf
  (repeat' (first | (refine ZAH ?_; conv => whnf) | (refine dsplit (fun _ => ?_) (fun _ => ?_) <;> conv => whnf)))
  all_goals ((refine fI ?_); unfold nxt; (repeat' split) <;> omega)
 ·conv => whnf
  (repeat' (first | (refine ZAH ?_; conv => whnf) | (refine dsplit (fun _ => ?_) (fun _ => ?_) <;> conv => whnf)))
  all_goals ((refine fI ?_); unfold nxt; (repeat' split) <;> omega)
 ·conv => whnf
  (repeat' (first | (refine ZAH ?_; conv => whnf) | (refine dsplit (fun _ => ?_) (fun _ => ?_) <;> conv => whnf)))
  all_goals ((refine fI ?_); unfold nxt; (repeat' split) <;> omega)
 ·conv => whnf
  (repeat' (first | (refine ZAH ?_; conv => whnf) | (refine dsplit (fun _ => ?_) (fun _ => ?_) <;> conv => whnf)))
  all_goals ((refine fI ?_); unfold nxt; (repeat' split) <;> omega)
 ·conv => whnf
  (repeat' (first | (refine ZAH ?_; conv => whnf) | (refine dsplit (fun _ => ?_) (fun _ => ?_) <;> conv => whnf)))
  all_goals ((refine fI ?_); unfold nxt; (repeat' split) <;> omega)
 ·conv => whnf
  (repeat' (first | (refine ZAH ?_; conv => whnf) | (refine dsplit (fun _ => ?_) (fun _ => ?_) <;> conv => whnf)))
  all_goals ((refine fI ?_); unfold nxt; (repeat' split) <;> omega)
 ·conv => whnf
  refine dsplit (fun h => absurd h h1) (fun _ => ?_)
  conv => whnf
  refine dsplit (fun h => absurd h h2) (fun _ => ?_)
  conv => whnf
  refine dsplit (fun h => absurd h h4) (fun _ => ?_)
  conv => whnf
  refine zJ ?_
  refine dsplit (fun h => absurd h h5) (fun _ => ?_)
  conv => whnf
  refine dsplit (fun h => absurd h h8) (fun _ => ?_)
  conv => whnf
  refine dsplit (fun h => absurd h h7) (fun _ => ?_)
  conv => whnf
  refine dsplit (fun h => absurd h h6) (fun _ => ?_)
  conv => whnf
  refine fI ?_
  unfold nxt
  (repeat' split) <;> omega
def fstN (S : Nat -> Int) (v : Int) : Nat -> Int
 | 0 => -1
 | n + 1 => if 0 <= fstN S v n then fstN S v n else if S n = v then n else -1
theorem ZNd (S : Nat -> Int) (v : Int) : ∀ n, 0 <= fstN S v n ↔ ∃ i, i < n /\ S i = v
 | 0 => by simp [fstN]
 | n + 1 => by
  have ih := ZNd S v n
  simp only [fstN]
  constructor
  ·intro h
   split at h
   ·rename_i h1; obtain ⟨i, hi, hs⟩ := ih.1 h1; exact ⟨i, by omega, hs⟩
   ·split at h
    ·rename_i h2; exact ⟨n, by omega, h2⟩
    ·omega
  ·intro ⟨i, hi, hs⟩
   split
   ·assumption
   ·rename_i h1
    have : i = n := by
     by_cases hin : i < n
     ·exact absurd (ih.2 ⟨i, hin, hs⟩) h1
     ·omega
    subst this
    rw [if_pos hs]; omega
theorem ZJB (S : Nat -> Int) (v : Int) (i : Nat) (h : 0 <= fstN S v i) : ∀ n, fstN S v (i + n) = fstN S v i
 | 0 => rfl
 | n + 1 => by
  have ih := ZJB S v i h n
  show (if 0 <= fstN S v (i + n) then fstN S v (i + n) else _) = _
  rw [ih, if_pos h]
theorem ZJC (S : Nat -> Int) (v : Int) (m : Nat) (hm : m <= 1000) : ZAE Tryz.prog 150 [(0, some (.ro 1 m (numE S)))] 1 [.l (.s 0 1 0 m 0), .l (.v (.int .i64 v))] fun x h n => x = sInt .i64 (fstN S v m) /\ n = 1 /\ h = [] := by
 refine sE Tryz.func150 ic150_eq [.t 4] fun G hP hA => ?_
 unfold evF ic150
 conv => whnf
 refine ZAg (α := Nat) (ds := []) (N := 1) (fun i => [(8, sInt .i64 (i : Int))]) [] (fun _ => [])
  (fun i => i <= m /\ fstN S v i = -1) (fun i => m - i) 0 ⟨Nat.zero_le _, rfl⟩ ?_ fun i hi => ?_
 ·exact iA
 ·obtain ⟨hi, hf⟩ := hi
  conv => whnf
  refine dsplit (fun h1 => ?_) (fun h1 => ?_)
  ·conv => whnf
   refine zP ?_
   refine dsplit (fun h2 => ?_) (fun h2 => ?_)
   ·conv => whnf
    refine fI ?_
    replace h2 : v = S i := h2
    obtain ⟨d, rfl⟩ : ∃ d, m = i + 1 + d := ⟨m - (i + 1), by omega⟩
    have he : fstN S v (i + 1) = i := by simp only [fstN, hf]; rw [if_neg (by omega), if_pos h2.symm]
    rw [ZJB S v (i + 1) (by omega) d, he]
   ·replace h2 : ¬ v = S i := h2
    conv => whnf
    refine zP ?_
    refine ⟨i + 1, ⟨by omega, ?_⟩, by omega, ?_⟩
    ·simp only [fstN, hf]; rw [if_neg (by omega), if_neg (fun h => h2 h.symm)]
    exact iA
  ·obtain rfl : i = m := by omega
   conv => whnf
   refine fI ?_
   exact hf.symm
theorem ZGR (S : Nat -> Int) (v : Int) (m : Nat) (hm : m <= 1000) : ZAE Tryz.prog 123 [(0, some (.ro 1 m (numE S)))] 1 [.l (.s 0 1 0 m 0), .l (.v (.int .i64 v))] fun x h n => x = ZAR (decide (0 <= fstN S v m)) /\ n = 1 /\ h = [] := by
 refine sE Tryz.func123 ic123_eq [.t 4] fun G hP hA => ?_
 have hx := ZJC S v m hm
 unfold evF ic123
 conv => whnf
 refine cA (hx) ?_
 exact fA
def entC (k c a : Int) (b : Bool) : List LV := [.v (.int .i64 k), .v (.int .i64 c), .v (.int .i64 a), .v (.bool b)]
def ZE1 (l : List Int) : Nat -> List Value := fun i => [.int .i64 (l.getD i 0)]
theorem ZMU (l : List Int) (x : Int) (g : Nat -> List Value) (hg : g 0 = [.int .i64 x]) : ∀ j, j < l.length + 1 -> (if j < l.length then ZE1 l j else g (j - l.length)) = ZE1 (l ++ [x]) j := fun j hj => by
 by_cases h : j < l.length
 ·simp [h, ZE1, List.getElem?_append_left h]
 ·obtain rfl : j = l.length := by omega
  simp [ZE1, hg]
theorem ZJD (k c a : Int) (b : Bool) (x : Int) : ZAE Tryz.prog 125 [(0, some (.st (entC k c a b)))] 1 [.l (.v (.int .i64 x)), .l (.p 0 0 0 0)] fun y h n => y = ZAR (decide (x = c)) /\ n = 1 /\ h = [(0, some (.st (entC k c a b)))] := by
 refine sE Tryz.func125 ic125_eq [.t 3] fun G hP hA => ?_
 unfold evF ic125
 conv => whnf
 exact fA
def posN (L : List Int) (c : Int) : Nat -> Int
 | 0 => -1
 | n + 1 => if 0 <= posN L c n then posN L c n else if L.getD n 0 = c then n else -1
theorem ZH1 (L : List Int) (c : Int) : ∀ n, posN L c n < n /\ -1 <= posN L c n
 | 0 => ⟨by simp [posN], by simp [posN]⟩
 | n + 1 => by
  have := ZH1 L c n
  simp only [posN]
  constructor <;> (repeat' split) <;> omega
theorem ZJE (L : List Int) (c : Int) (i : Nat) (h : 0 <= posN L c i) : ∀ n, posN L c (i + n) = posN L c i
 | 0 => rfl
 | n + 1 => by
  have ih := ZJE L c i h n
  show (if 0 <= posN L c (i + n) then posN L c (i + n) else _) = _
  rw [ih, if_pos h]
theorem ZH2 (k c a : Int) (b : Bool) (L : List Int) (m : Nat) (hm : m <= 1000) : ZAE Tryz.prog 151 [(0, some (.st (entC k c a b))), (1, some (.ro 1 m (ZE1 L)))] 2 [.l (.s 1 1 0 m 0), .l (.c 125 [0])] fun x h n => x = sInt .i64 (posN L c m) /\ n = 2 /\ h = [(0, some (.st (entC k c a b)))] := by
 refine sE Tryz.func151 ic151_eq [.t 4] fun G hP hA => ?_
 unfold evF ic151
 conv => whnf
 refine ZAg (α := Nat) (ds := []) (N := 2) (fun i => [(8, sInt .i64 (i : Int))]) [] (fun _ => [(0, some (.st (entC k c a b)))])
  (fun i => i <= m /\ posN L c i = -1) (fun i => m - i) 0 ⟨Nat.zero_le _, rfl⟩ ?_ fun i hi => ?_
 ·exact iA
 ·obtain ⟨hi, hf⟩ := hi
  have hc := ZJD k c a b (L.getD i 0)
  conv => whnf
  refine dsplit (fun h1 => ?_) (fun h1 => ?_)
  ·conv => whnf
   refine zP ?_
   refine cA (hc) ?_
   refine dsplit (fun h2 => ?_) (fun h2 => ?_)
   ·conv => whnf
    refine fI ?_
    obtain ⟨d, rfl⟩ : ∃ d, m = i + 1 + d := ⟨m - (i + 1), by omega⟩
    have he : posN L c (i + 1) = i := by simp only [posN, hf]; rw [if_neg (by omega), if_pos h2]
    rw [ZJE L c (i + 1) (by omega) d, he]
   ·conv => whnf
    refine zP ?_
    refine ⟨i + 1, ⟨by omega, ?_⟩, by omega, ?_⟩
    ·simp only [posN, hf]; rw [if_neg (by omega), if_neg h2]
    exact iA
  ·obtain rfl : i = m := by omega
   conv => whnf
   refine fI ?_
   exact hf.symm
def outZ (L : List Int) (c : Int) : Nat -> List Int
 | 0 => []
 | i + 1 => if L.getD i 0 = c then outZ L c i else outZ L c i ++ [L.getD i 0]
theorem ZH3 (L : List Int) (c : Int) : ∀ i, (outZ L c i).length <= i
 | 0 => Nat.le_refl _
 | i + 1 => by have := ZH3 L c i; simp only [outZ]; split <;> simp <;> omega
theorem ZKY (L : List Int) (c : Int) : ∀ i, i <= L.length -> outZ L c i = (L.take i).filter (fun x => decide (x ≠ c))
 | 0, _ => by simp [outZ]
 | i + 1, h => by
  have hi : i < L.length := by omega
  rw [List.take_succ_eq_append_getElem hi, List.filter_append]
  simp only [outZ, ZKY L c i (by omega)]
  have hg : L.getD i 0 = L[i] := by simp [hi]
  rw [hg]
  by_cases hp : L[i] = c <;> simp [hp]
theorem ZGC (L : List Int) (c : Int) : ∀ i, i <= L.length -> posN L c i = -1 -> outZ L c i = L.take i
 | 0, _, _ => by simp [outZ]
 | i + 1, h, hp => by
  have hi : i < L.length := by omega
  have hg : L.getD i 0 = L[i] := by simp [hi]
  simp only [posN] at hp
  have h1 : ¬ 0 <= posN L c i := fun hh => by rw [if_pos hh] at hp; omega
  rw [if_neg h1] at hp
  have h2 : ¬ L.getD i 0 = c := fun hh => by rw [if_pos hh] at hp; omega
  have h3 := ZH1 L c i
  simp only [outZ, if_neg h2]
  rw [ZGC L c i (by omega) (by omega), List.take_succ_eq_append_getElem hi, hg]
theorem ZNe (L : List Int) (c : Int) : ∀ i, 0 <= posN L c i -> ∃ q : Nat, posN L c i = q /\ q < i /\ L.getD q 0 = c /\ posN L c q = -1
 | 0, h => by simp [posN] at h
 | i + 1, h => by
  by_cases h1 : 0 <= posN L c i
  ·obtain ⟨q, h2, h3, h4, h5⟩ := ZNe L c i h1
   exact ⟨q, by simp only [posN]; rw [if_pos h1]; exact h2, by omega, h4, h5⟩
  ·simp only [posN, if_neg h1] at h ⊢
   have h3 := ZH1 L c i
   by_cases h2 : L.getD i 0 = c
   ·rw [if_pos h2]; exact ⟨i, rfl, by omega, h2, by omega⟩
   ·rw [if_neg h2] at h; omega
def arrD (L : List Int) (c : Int) (j : Nat) : Nat -> List Value := fun p => [.int .i64 (if p < (outZ L c j).length then (outZ L c j).getD p 0 else L.getD p 0)]
theorem ZMV (L : List Int) (c : Int) (q : Nat) (hq : q < L.length) (h1 : L.getD q 0 = c) (h2 : posN L c q = -1) (p : Nat) (hp : p < L.length) : ZE1 L p = arrD L c (q + 1) p := by
 have h3 : outZ L c (q + 1) = L.take q := by simp only [outZ, if_pos h1]; exact ZGC L c q (by omega) h2
 unfold arrD ZE1
 rw [h3]
 by_cases hpq : p < (L.take q).length
 ·rw [if_pos hpq]
  have : p < q := by simp at hpq; omega
  simp [List.getElem?_take, this]
 ·rw [if_neg hpq]
theorem ZPT (L : List Int) (c : Int) (j p : Nat) (hp : p < (outZ L c j).length) : arrD L c j p = ZE1 (outZ L c j) p := by
 unfold arrD ZE1; rw [if_pos hp]
theorem ZNf (L : List Int) (c : Int) (j p : Nat) (v : Int) (hv : v = L.getD j 0) (ho : outZ L c (j + 1) = outZ L c j ++ [L.getD j 0]) :
  mrgL (p = (outZ L c j).length) (ZAI (arrD L c j p) 0 [Value.int .i64 v]) (arrD L c j p) = arrD L c (j + 1) p := by
 subst hv
 rw [ZEp _ _ _ (by rw [ZAi])]
 have hs : ZAI (arrD L c j p) 0 [Value.int .i64 (L.getD j 0)] = [Value.int .i64 (L.getD j 0)] := rfl
 rw [hs]
 unfold arrD
 rw [ho]
 by_cases h : p = (outZ L c j).length
 ·rw [if_pos h, h]; simp
 ·rw [if_neg h]
  by_cases h2 : p < (outZ L c j).length
  ·have : p < (outZ L c j ++ [L.getD j 0]).length := by simp; omega
   rw [if_pos h2, if_pos this]; simp [List.getElem?_append_left h2]
  ·have : ¬ p < (outZ L c j ++ [L.getD j 0]).length := by simp; omega
   rw [if_neg h2, if_neg this]
theorem ZE2 (k c a : Int) (b : Bool) (L : List Int) (hm : L.length <= 1000) : ZAE Tryz.prog 124 [(0, some (.st (entC k c a b))), (1, some (.ar 1 L.length (ZE1 L)))] 2 [.l (.s 1 1 0 L.length 0), .l (.c 125 [0])] fun x h n =>
  x = .o (.l (.s 1 1 0 (outZ L c L.length).length 0)) /\ n = 2 /\ h = [(0, some (.st (entC k c a b))), (1, some (.ar 1 (outZ L c L.length).length (ZE1 (outZ L c L.length))))] := by
 have hx := ZH2 k c a b L L.length hm
 have hpl := ZH1 L c L.length
 have hall := ZGC L c L.length (Nat.le_refl _)
 rw [List.take_length] at hall
 have hat := ZNe L c L.length
 refine sE Tryz.func124 ic124_eq [.t 4] fun G hP hA => ?_
 unfold evF ic124
 conv => whnf
 refine cA (hx) ?_
 refine dsplit (fun h1 => ?_) (fun h1 => ?_)
 ·rw [hall h1]
  conv => whnf
  exact fA
 ·obtain ⟨q, hq, hql, hqc, hqp⟩ := hat (by omega)
  rw [hq]
  conv => whnf
  refine zP ?_
  refine ZAg (α := Nat) (ds := []) (N := 2) (fun j => [(5, sInt .i64 ((outZ L c j).length : Int)), (6, sInt .i64 (j : Int))]) [] (fun j => [(1, some (.ar 1 L.length (arrD L c j)))])
   (fun j => j <= L.length) (fun j => L.length - j) (q + 1) (by omega) ?_ fun j hj => ?_
  ·have hq0 : (outZ L c (q + 1)).length = q := by simp only [outZ, if_pos hqc]; rw [ZGC L c q (by omega) hqp]; simp; omega
   rw [hq0]
   refine iQ ?_
   exact And.intro (And.intro rfl (And.intro rfl fun p hp => ZMV L c q hql hqc hqp p hp)) ZAB
  ·have hol := ZH3 L c j
   have hc := ZJD k c a b (if j < (outZ L c j).length then (outZ L c j).getD j 0 else L.getD j 0)
   conv => whnf
   refine dsplit (fun h2 => ?_) (fun h2 => ?_)
   ·conv => whnf
    refine zJ ?_
    refine zP ?_
    refine cA (hc) ?_
    have hv : (if j < (outZ L c j).length then (outZ L c j).getD j 0 else L.getD j 0) = L.getD j 0 := if_neg (by omega)
    rw [hv]
    refine nbsplit (fun h3 => ?_) (fun h3 => ?_)
    ·replace h3 : ¬ L.getD j 0 = c := of_decide_eq_false h3
     have ho : outZ L c (j + 1) = outZ L c j ++ [L.getD j 0] := by simp only [outZ, if_neg h3]
     have hlen : (outZ L c (j + 1)).length = (outZ L c j).length + 1 := by rw [ho]; simp
     conv => whnf
     refine zP ?_
     refine ⟨j + 1, by omega, by omega, ?_⟩
     rw [hlen]
     refine iQ ?_
     refine And.intro (And.intro rfl (And.intro rfl fun p hp => ?_)) ZAB
     exact ZNf L c j p _ hv ho
    ·replace h3 : L.getD j 0 = c := of_decide_eq_true h3
     have ho : outZ L c (j + 1) = outZ L c j := by simp only [outZ, if_pos h3]
     conv => whnf
     refine zP ?_
     refine ⟨j + 1, by omega, by omega, ?_⟩
     rw [ho]
     refine iQ ?_
     refine And.intro (And.intro rfl (And.intro rfl fun p hp => ?_)) ZAB
     unfold arrD; rw [ho]
   ·obtain rfl : j = L.length := by omega
    conv => whnf
    refine zP ?_
    refine ZNb (row := (outZ L c L.length).length) (len := L.length - (outZ L c L.length).length) (m := L.length) (f := arrD L c L.length) (el := 3) (zv := .int .i64 0) (by rw [hP]; kernel_rfl) (by rw [hP]; kernel_rfl) rfl rfl rfl (by omega) ?_
    conv => whnf
    refine zP ?_
    refine fQ ?_ ?_
    ·rfl
    ·refine And.intro rfl (And.intro (And.intro rfl (And.intro rfl fun p hp => ZPT L c L.length p hp)) ZAB)
def tkOk (w : Nat) (S : Nat -> Int) (Q : List Int) (k c : Int) (b : Bool) : Bool := decide (b = false /\ 0 <= c /\ c < w /\ 0 <= nxt (S c.toNat) k /\ (nxt (S c.toNat) k = 3 -> Q.getD 0 0 = c /\ ¬ 0 <= fstN S 3 w))
def tkS (w : Nat) (S : Nat -> Int) (Q : List Int) (k c : Int) (b : Bool) : Nat -> Int := fun i => if tkOk w S Q k c b = true /\ i = c.toNat then nxt (S c.toNat) k else S i
def tkQ (w : Nat) (S : Nat -> Int) (Q : List Int) (k c : Int) (b : Bool) : List Int := if tkOk w S Q k c b = true then (if S c.toNat = 2 then outZ Q c Q.length else Q) ++ (if nxt (S c.toNat) k = 2 then [c] else []) else Q
theorem ZE3 (S S' : Nat -> Int) (j : Nat) (x : Int) (hS : ∀ i, S' i = if i = j then x else S i) (p : Nat) : mrgL (p = j) (ZAI (numE S p) 0 [Value.int .i64 x]) (numE S p) = numE S' p := by
 rw [ZEp _ _ _ (by rw [ZAi])]
 have hs : ZAI (numE S p) 0 [Value.int .i64 x] = [Value.int .i64 x] := rfl
 rw [hs]
 unfold numE
 rw [hS]
 by_cases h : p = j
 ·rw [if_pos h, if_pos h]
 ·rw [if_neg h, if_neg h]
theorem ZKZ (w : Nat) (S : Nat -> Int) (Q : List Int) (k c a : Int) (b : Bool) (hw : w <= 64) (hQ : Q.length <= 900) (hne : 0 <= c -> c < w -> S c.toNat = 2 -> 0 < Q.length) :
  ZAE Tryz.prog 93 [(0, some (.st [.s 1 1 0 w 0, .s 2 1 0 Q.length 0])), (1, some (.ar 1 w (numE S))), (2, some (.ar 1 Q.length (ZE1 Q)))] 3 [.l (.p 0 0 0 0), .a (entC k c a b)] fun x h n =>
   x = ZAR (tkOk w S Q k c b) /\ n = 4 /\ h = [(0, some (.st [.s 1 1 0 w 0, .s 3 1 0 (tkQ w S Q k c b).length 0])), (1, some (.ar 1 w (numE (tkS w S Q k c b)))), (3, some (.ar 1 (tkQ w S Q k c b).length (ZE1 (tkQ w S Q k c b))))] := by
 have hno : tkOk w S Q k c b = false -> tkS w S Q k c b = S /\ tkQ w S Q k c b = Q := fun h => ⟨by unfold tkS; simp [h], by unfold tkQ; simp [h]⟩
 obtain ⟨r, hr⟩ : ∃ r, r = tkOk w S Q k c b := ⟨_, rfl⟩
 rw [<- hr] at hno ⊢
 obtain ⟨S', hS'⟩ : ∃ S', S' = tkS w S Q k c b := ⟨_, rfl⟩
 rw [<- hS'] at hno ⊢
 obtain ⟨Q', hQ'⟩ : ∃ Q', Q' = tkQ w S Q k c b := ⟨_, rfl⟩
 rw [<- hQ'] at hno ⊢
 have stop : r = false -> ∀ {np : Nat} {h : Heap} {n : Nat}, True := fun _ => trivial
 refine sE Tryz.func93 ic93_eq [.t 4] fun G hP hA => ?_
 unfold evF ic93
 conv => whnf
 refine zD ?_
 cases b with
 | true =>
  have hr0 : r = false := by rw [hr]; unfold tkOk; simp
  obtain ⟨rfl, rfl⟩ := hno hr0
  subst hr0
  conv => whnf
  exact fA
 | false =>
  conv => whnf
  refine dsplit (fun h1 => ?_) (fun h1 => ?_)
  ·have hr0 : r = false := by rw [hr]; unfold tkOk; exact decide_eq_false fun h => by omega
   obtain ⟨rfl, rfl⟩ := hno hr0
   subst hr0
   conv => whnf
   exact fA
  ·conv => whnf
   refine dsplit (fun h2 => ?_) (fun h2 => ?_)
   ·have hr0 : r = false := by rw [hr]; unfold tkOk; exact decide_eq_false fun h => by omega
    obtain ⟨rfl, rfl⟩ := hno hr0
    subst hr0
    conv => whnf
    exact fA
   ·obtain ⟨j, rfl⟩ : ∃ j : Nat, c = j := ⟨c.toNat, by omega⟩
    have hnx := ZKX (S j) k
    conv => whnf
    refine zD ?_
    refine zP ?_
    refine cA (hnx) ?_
    have hx3 : nxt (S j) k = 3 -> S j = 2 := by unfold nxt; (repeat' split) <;> omega
    have hx2 : nxt (S j) k = 2 -> S j = 1 := by unfold nxt; (repeat' split) <;> omega
    have hct := ZGR S 3 w (by omega)
    conv => whnf
    refine zO ?_
    refine zD ?_
    refine dsplit (fun h3 => ?_) (fun h3 => ?_)
    ·have hr0 : r = false := by rw [hr]; unfold tkOk; exact decide_eq_false fun h => by simp only [Int.toNat_natCast] at h; omega
     obtain ⟨rfl, rfl⟩ := hno hr0
     subst hr0
     conv => whnf
     refine zO ?_
     exact fA
    ·conv => whnf
     refine dsplit (fun h4 => ?_) (fun h4 => ?_)
     ·have h5 := hx3 h4
      have h6 := hne (by omega) (by omega) h5
      conv => whnf
      refine zP ?_
      refine dsplit (fun h7 => ?_) (fun h7 => ?_)
      ·have hr0 : r = false := by rw [hr]; unfold tkOk; exact decide_eq_false fun h => by simp only [Int.toNat_natCast] at h; exact h7 (h.2.2.2.2 h4).1
       obtain ⟨rfl, rfl⟩ := hno hr0
       subst hr0
       conv => whnf
       refine zO ?_
       exact fA
      ·conv => whnf
       refine cA (hct) ?_
       refine dsplit (fun h8 => ?_) (fun h8 => ?_)
       ·have hr0 : r = false := by rw [hr]; unfold tkOk; exact decide_eq_false fun h => by simp only [Int.toNat_natCast] at h; exact (h.2.2.2.2 h4).2 h8
        obtain ⟨rfl, rfl⟩ := hno hr0
        subst hr0
        conv => whnf
        refine zO ?_
        exact fA
       ·have hr1 : r = true := by rw [hr]; unfold tkOk; exact decide_eq_true ⟨rfl, by omega, by omega, by rw [Int.toNat_natCast]; omega, fun _ => ⟨Decidable.byContradiction fun hh => h7 hh, h8⟩⟩
        have hS : ∀ i, S' i = if i = j then nxt (S j) k else S i := fun i => by rw [hS']; unfold tkS; rw [<- hr, hr1]; simp
        have hQ2 : Q' = outZ Q j Q.length := by rw [hQ']; unfold tkQ; rw [<- hr, hr1, if_pos rfl, Int.toNat_natCast, if_pos h5, if_neg (by omega), List.append_nil]
        have hdel := ZE2 k j a false Q (by omega)
        rw [hQ2, hr1]
        conv => whnf
        refine zO ?_
        refine zJ ?_
        refine zD ?_
        refine zP ?_
        refine dsplit (fun h9 => ?_) (fun h9 => absurd h5 h9)
        conv => whnf
        refine cA (hdel) ?_
        refine zJ ?_
        refine dsplit (fun h10 => absurd h10 (by omega)) (fun h10 => ?_)
        conv => whnf
        refine zD ?_
        refine zP ?_
        refine fQ ?_ ?_
        ·rfl
        ·exact And.intro rfl (And.intro (And.intro rfl (And.intro rfl fun p hp => ZE3 S S' j _ hS p)) ZAB)
     ·have hr1 : r = true := by rw [hr]; unfold tkOk; exact decide_eq_true ⟨rfl, by omega, by omega, by rw [Int.toNat_natCast]; omega, fun h => absurd h h4⟩
      have hS : ∀ i, S' i = if i = j then nxt (S j) k else S i := fun i => by rw [hS']; unfold tkS; rw [<- hr, hr1]; simp
      have hdel := ZE2 k j a false Q (by omega)
      rw [hr1]
      conv => whnf
      refine zO ?_
      refine zJ ?_
      refine zD ?_
      refine zP ?_
      refine dsplit (fun h9 => ?_) (fun h9 => ?_)
      ·replace h9 : S j = 2 := h9
       have hQ2 : Q' = outZ Q j Q.length := by rw [hQ']; unfold tkQ; rw [<- hr, hr1, if_pos rfl, Int.toNat_natCast, if_pos h9, if_neg (by omega), List.append_nil]
       rw [hQ2]
       conv => whnf
       refine cA (hdel) ?_
       refine zJ ?_
       refine dsplit (fun h10 => absurd h10 (by omega)) (fun h10 => ?_)
       conv => whnf
       refine zD ?_
       refine zP ?_
       refine fQ ?_ ?_
       ·rfl
       ·exact And.intro rfl (And.intro (And.intro rfl (And.intro rfl fun p hp => ZE3 S S' j _ hS p)) ZAB)
      ·replace h9 : ¬ S j = 2 := h9
       conv => whnf
       refine zJ ?_
       refine dsplit (fun h10 => ?_) (fun h10 => ?_)
       ·have hQ2 : Q' = Q ++ [(j : Int)] := by rw [hQ']; unfold tkQ; rw [<- hr, hr1, if_pos rfl, Int.toNat_natCast, if_neg h9, if_pos h10]
        rw [hQ2]
        conv => whnf
        refine zD ?_
        refine zP ?_
        refine zO ?_
        conv => whnf
        refine zD ?_
        refine zP ?_
        have hql : (Q ++ [(j : Int)]).length = Q.length + 1 := by simp
        rw [hql]
        refine fQ ?_ ?_
        ·rfl
        ·refine And.intro rfl (And.intro (And.intro rfl (And.intro rfl fun p hp => ZE3 S S' j _ hS p)) (And.intro (And.intro rfl (And.intro rfl fun p hp => ?_)) ZAB))
         exact ZMU Q j _ rfl p hp
       ·have hQ2 : Q' = Q := by rw [hQ']; unfold tkQ; rw [<- hr, hr1, if_pos rfl, Int.toNat_natCast, if_neg h9, if_neg h10, List.append_nil]
        rw [hQ2]
        conv => whnf
        refine zD ?_
        refine zP ?_
        refine fQ ?_ ?_
        ·rfl
        ·exact And.intro rfl (And.intro (And.intro rfl (And.intro rfl fun p hp => ZE3 S S' j _ hS p)) ZAB)
def entE (k t a : Nat -> Int) (b : Nat -> Bool) : Nat -> List Value := fun i => [.int .i64 (k i), .int .i64 (t i), .int .i64 (a i), .bool (b i)]
def lkN (w : Nat) (k t : Nat -> Int) (b : Nat -> Bool) : Nat -> (Nat -> Int) × List Int
 | 0 => (fun _ => 0, [])
 | i + 1 => (tkS w (lkN w k t b i).1 (lkN w k t b i).2 (k i) (t i) (b i), tkQ w (lkN w k t b i).1 (lkN w k t b i).2 (k i) (t i) (b i))
def okN (w : Nat) (k t : Nat -> Int) (b : Nat -> Bool) (i : Nat) : Bool := tkOk w (lkN w k t b i).1 (lkN w k t b i).2 (k i) (t i) (b i)
def cntN (p : Nat -> Bool) : Nat -> Nat
 | 0 => 0
 | i + 1 => if cntN p i < i then cntN p i else if p i = true then i + 1 else i
theorem ZJF (p : Nat -> Bool) (i : Nat) (h : cntN p i = i) (hp : p i = false) : ∀ n, cntN p (i + 1 + n) = i
 | 0 => by show cntN p (i + 1) = i; simp only [cntN, hp, h]; simp
 | n + 1 => by
  have ih := ZJF p i h hp n
  show (if cntN p (i + 1 + n) < i + 1 + n then cntN p (i + 1 + n) else _) = i
  rw [ih, if_pos (by omega)]
theorem ZPU (L : List Int) (c x : Int) (h : x ∈ L) (hne : x ≠ c) : x ∈ outZ L c L.length := by
 rw [ZKY L c L.length (Nat.le_refl _), List.take_length, List.mem_filter]
 exact ⟨h, decide_eq_true hne⟩
theorem ZQN (w : Nat) (k t : Nat -> Int) (b : Nat -> Bool) : ∀ i, (lkN w k t b i).2.length <= i
 | 0 => Nat.le_refl _
 | i + 1 => by
  have ih := ZQN w k t b i
  have h2 := ZH3 (lkN w k t b i).2 (t i) (lkN w k t b i).2.length
  simp only [lkN, tkQ]
  split
  ·rw [List.length_append]
   have : ∀ (c : Prop) [Decidable c], (if c then [t i] else []).length <= 1 := fun c _ => by split <;> simp
   have := this (nxt ((lkN w k t b i).1 (t i).toNat) (k i) = 2)
   split <;> omega
  ·omega
theorem ZR0 (w : Nat) (k t : Nat -> Int) (b : Nat -> Bool) : ∀ i, ∀ c : Nat, (lkN w k t b i).1 c = 2 -> (c : Int) ∈ (lkN w k t b i).2
 | 0, c, h => by simp [lkN] at h
 | i + 1, c, h => by
  have ih := ZR0 w k t b i
  generalize hp : lkN w k t b i = p at *
  simp only [lkN, hp, tkS] at h
  simp only [lkN, hp, tkQ]
  by_cases hok : tkOk w p.1 p.2 (k i) (t i) (b i) = true
  ·rw [if_pos hok]
   have ht : 0 <= t i := (of_decide_eq_true hok).2.1
   by_cases hc : c = (t i).toNat
   ·rw [if_pos ⟨hok, hc⟩] at h
    rw [if_pos h]
    have : (c : Int) = t i := by omega
    simp [this]
   ·rw [if_neg fun hh => hc hh.2] at h
    have hm := ih c h
    refine List.mem_append.2 (.inl ?_)
    split
    ·exact ZPU _ _ _ hm (by omega)
    ·exact hm
  ·rw [if_neg fun hh => hok hh.1] at h
   rw [if_neg hok]
   exact ih c h
theorem ZLm {l : Nat -> Nat} {a b : Int} {x y : Bool} (h1 : a = b) (h2 : x = y) : ZI1 ([] ++ [AV.l (LV.v (Value.int .i64 a))] ++ [AV.l (LV.v (Value.bool x))]) = SV.ren l (.t [.l (.v (.int .i64 b)), .l (.v (.bool y))]) := by subst h1; subst h2; rfl
theorem ZDx (n : Int) (w : Nat) (hw : clamp n = w) (hw2 : w <= 64) (k t a : Nat -> Int) (b : Nat -> Bool) (m : Nat) (hm : m <= 900) :
  ZAE Tryz.prog 52 [(0, some (.ro 4 m (entE k t a b)))] 1 [.l (.v (.int .i64 n)), .l (.s 0 4 0 m 0)] fun x h j =>
   x = .t [.l (.v (.int .i64 (cntN (okN w k t b) m : Int))), .l (.v (.bool (decide (cntN (okN w k t b) m = m))))] /\ j = 1 /\ h = [] := by
 have hnw := ZMT n w hw hw2
 refine sE Tryz.func52 ic52_eq [.t 4, .t 5] fun G hP hA => ?_
 unfold evF ic52
 conv => whnf
 refine cA (hnw) ?_
 refine ZAg (α := Nat) (ds := []) (N := 4) (fun i => [(13, sInt .i64 (i : Int))]) [] (fun i => [(1, some (.st [.s 2 1 0 w 0, .s 3 1 0 (lkN w k t b i).2.length 0])), (2, some (.ar 1 w (numE (lkN w k t b i).1))), (3, some (.ar 1 (lkN w k t b i).2.length (ZE1 (lkN w k t b i).2)))])
  (fun i => i <= m /\ cntN (okN w k t b) i = i) (fun i => m - i) 0 ⟨Nat.zero_le _, rfl⟩ ?_ fun i hi => ?_
 ·exact iA
 ·obtain ⟨hi, hct⟩ := hi
  have hln := ZQN w k t b i
  have hin := ZR0 w k t b i
  have htk := ZKZ w (lkN w k t b i).1 (lkN w k t b i).2 (k i) (t i) (a i) (b i) hw2 (by omega) (fun h0 h1 h2 => by
   have := hin _ h2
   exact List.length_pos_of_mem this)
  conv => whnf
  refine dsplit (fun h1 => ?_) (fun h1 => ?_)
  ·conv => whnf
   refine zP ?_
   refine cA (htk) ?_
   refine nbsplit (fun h3 => ?_) (fun h3 => ?_)
   ·conv => whnf
    have hc2 : cntN (okN w k t b) m = i := by
     obtain ⟨d, hd⟩ : ∃ d, m = i + 1 + d := ⟨m - (i + 1), by omega⟩
     rw [hd]; exact ZJF _ i hct h3 d
    refine fQ ?_ ?_
    ·exact ZLm (by rw [hc2]) (by rw [hc2]; exact (decide_eq_false (by omega)).symm)
    ·exact ZAB
   ·have hl : lkN w k t b (i + 1) = (tkS w (lkN w k t b i).1 (lkN w k t b i).2 (k i) (t i) (b i), tkQ w (lkN w k t b i).1 (lkN w k t b i).2 (k i) (t i) (b i)) := rfl
    have hc2 : cntN (okN w k t b) (i + 1) = i + 1 := by
     have h4 : okN w k t b i = true := h3
     simp only [cntN, hct, h4]; simp
    conv => whnf
    refine zP ?_
    refine ⟨i + 1, ⟨by omega, hc2⟩, by omega, ?_⟩
    rw [hl]
    exact iA
  ·obtain rfl : i = m := by omega
   conv => whnf
   refine fQ ?_ ?_
   ·exact ZLm (by rw [hct]) (by rw [hct]; exact (decide_eq_true rfl).symm)
   ·exact ZAB
def ZNB (ty p l s m : Nat) : List LV := [.p p 0 0 0, .i ty l, .v (.slice none 0 0), .v (.int .i64 0), .v (.int .i64 0), .s s 1 0 m 0]
def ZRE (ty p l tr s m i : Nat) (now idle : Int) : List LV := [.p p 0 0 0, .i ty l, .s tr 4 0 i 0, .v (.int .i64 now), .v (.int .i64 idle), .s s 1 0 m 0]
def rowT (kind t now : Int) (lead : Bool) : List Value := [.int .i64 kind, .int .i64 t, .int .i64 now, .bool lead]
def ZBF (rows : Nat -> List Value) (i : Nat) (r : List Value) : Nat -> List Value := fun j => if j < i then rows j else r
structure MS where
 S : LK
 s : PS
 i : Nat
 rows : Nat -> List Value
 now : Int
 idle : Int
 sp : Nat -> Int
def ZCH (n nw ty tr : Nat) (hs : Nat -> Int) (X : MS) : Heap := [(0, some (.st (ZRE ty 1 2 tr 4 n X.i X.now X.idle))), (1, some (ZBC n nw hs X.s)), (2, some (.ob [1] (X.S.R n))), (tr, some (.ar 4 X.i X.rows)), (4, some (.ar 1 n (numE X.sp)))]
def MS.ent (X : MS) (kind t : Int) (lead : Bool) : MS := ⟨X.S, X.s, X.i + 1, ZBF X.rows X.i (rowT kind t X.now lead), X.now, X.idle, X.sp⟩
theorem ZAZ (ty m i : Nat) (now idle kind t : Int) (rows : Nat -> List Value) (hi : i <= 100000) :
  ZAE Tryz.prog 97 [(0, some (.st (ZRE ty 1 2 3 4 m i now idle))), (3, some (.ar 4 i rows))] 5 [.l (.p 0 0 0 0), .l (.v (.int .i64 kind)), .l (.v (.int .i64 t))] fun x h k =>
   x = .t [] /\ k = 6 /\ h = [(0, some (.st (ZRE ty 1 2 5 4 m (i + 1) now idle))), (5, some (.ar 4 (i + 1) (ZBF rows i (rowT kind t now false))))] := by
 refine sE Tryz.func97 ic97_eq [] fun G hP hA => ?_
 unfold evF ic97
 conv => whnf
 refine zD ?_
 refine zP ?_
 refine zO ?_
 refine fQ ?_ ?_
 ·rfl
 ·refine ⟨rfl, ⟨rfl, rfl, fun j hj => ?_⟩, trivial⟩
  by_cases h : j < i
  ·simp only [ZBF, if_pos h]
  ·have e : j - i = 0 := by omega
   simp only [ZBF, if_neg h, e]
   rfl
def MS.did (X : MS) (d : Dd) (t : Int) : MS :=
 let X1 := pick d.q (X.ent 2 t false) X
 let X2 := pick d.a (X1.ent 3 t false) X1
 pick (decide (d.e = 1)) (X2.ent 4 t d.l) (pick (decide (d.e = 2)) (X2.ent 5 t false) (pick (decide (d.e = 6)) (X2.ent 8 t false) (pick (decide (d.e = 3)) (X2.ent 7 t false) X2)))
def MS.mid (n nw : Nat) (X : MS) (t : Nat) : Dd × LK × PS := X.S.step n nw (t : Int) X.now t X.s
def MS.busy (n : Nat) (X : MS) (t : Int) : Bool := decide (stV n X.S.ss.st t = 1) || decide (stV n X.S.ss.st t = 3)
def MS.stp (n nw : Nat) (X : MS) (t : Int) : Bool × MS :=
 match X.busy n t with
 | true => (true, (MS.mk (X.mid n nw t.toNat).2.1 (X.mid n nw t.toNat).2.2 X.i X.rows X.now X.idle (updF X.sp t.toNat (incZ (X.sp t.toNat)))).did (X.mid n nw t.toNat).1 t)
 | false => (false, X)
theorem ZPd (rows : Nat -> List Value) (i : Nat) (a b c : Int) (l : Bool) (j : Nat) (hj : j < i + 1) : mrgL (j = i) (ZAI (ZBF rows i (rowT a b c false) j) 3 [.bool l]) (ZBF rows i (rowT a b c false) j) = ZBF rows i (rowT a b c l) j := by
 rw [ZEp _ _ _ (by rw [ZAi])]
 by_cases h : j = i
 ·subst h
  simp [ZBF, rowT, ZAI, setL]
 ·rw [if_neg h]
  simp only [ZBF, if_pos (show j < i by omega)]
theorem natL (k : Nat) : nadd 0 (((k + 1 : Nat) : Int) - 1).toNat = k := by simp [ZAO]
theorem ZMm (n nw ty : Nat) (hs : Nat -> Int) (X : MS) (t : Nat) (v : Int) (ht : t < n) (hn : n <= 64) (hnw : nw <= 4096) (hT : X.S.T = ty) (hok : X.S.inv n) (hi : X.i <= 90000) (hv : X.S.ss.st t = v) (hv2 : v = 1 \/ v = 3) (e : Int) (l : Bool) (S' : LK) (s' : PS) (hr : X.mid n nw t = (⟨e, true, true, l⟩, S', s')) :
  ZAE Tryz.prog 94 (ZCH n nw ty 3 hs X) 5 [.l (.p 0 0 0 0), .l (.v (.int .i64 t))] fun x h k =>
   x = ZAR true /\ k = 6 /\ h = ZCH n nw ty 5 hs ((MS.mk S' s' X.i X.rows X.now X.idle (updF X.sp t (incZ (X.sp t)))).did ⟨e, true, true, l⟩ t) := by
 have hst := ZGa X.S n t hn
 have hin : inW n (t : Int) = true := by simp [inW]; omega
 simp only [stV, hin, pick, Int.toNat_natCast, hv] at hst
 have hsp := ZLr X.S n n nw t t X.now hs X.s ht hn hn hnw hok
 unfold MS.mid at hr
 rw [hr] at hsp
 rw [hT] at hst hsp
 refine sE Tryz.func94 ic94_eq [.t 4] fun G hP hA => ?_
 unfold evF ic94 MS.did
 rcases hv2 with rfl | rfl
 all_goals
  have h0 := ZAZ ty n (X.i) X.now X.idle 2 t (X.rows) (by omega)
  have h1 := ZAZ ty n (X.i + 1) X.now X.idle 3 t (ZBF (X.rows) (X.i) (rowT 2 t X.now false)) (by omega)
  have ha := ZAZ ty n (X.i + 1 + 1) X.now X.idle 4 t (ZBF (ZBF (X.rows) (X.i) (rowT 2 t X.now false)) (X.i + 1) (rowT 3 t X.now false)) (by omega)
  have hb := ZAZ ty n (X.i + 1 + 1) X.now X.idle 5 t (ZBF (ZBF (X.rows) (X.i) (rowT 2 t X.now false)) (X.i + 1) (rowT 3 t X.now false)) (by omega)
  have hc := ZAZ ty n (X.i + 1 + 1) X.now X.idle 8 t (ZBF (ZBF (X.rows) (X.i) (rowT 2 t X.now false)) (X.i + 1) (rowT 3 t X.now false)) (by omega)
  have hd := ZAZ ty n (X.i + 1 + 1) X.now X.idle 7 t (ZBF (ZBF (X.rows) (X.i) (rowT 2 t X.now false)) (X.i + 1) (rowT 3 t X.now false)) (by omega)
  by_cases e1 : e = 1 <;> by_cases e2 : e = 2 <;> by_cases e6 : e = 6 <;> by_cases e3 : e = 3
  all_goals first | (exfalso; omega) | skip
  all_goals
   simp only [e1, e2, e6, e3, Int.reduceEq, decide_true, decide_false, pick]
   conv => whnf
   refine gr8 natL h0 h1 ha hb hc hd hst hsp ?_
   refine fQ ?_ ?_
   ·rfl
   ·first
     | exact ⟨rfl, ZAB, ZAB, ⟨rfl, rfl, fun j hj => rfl⟩, ⟨rfl, rfl, fun j hj => updM X.sp t _ j⟩, trivial⟩
     | exact ⟨rfl, ZAB, ZAB, ⟨rfl, rfl, fun j hj => ZPd _ _ _ _ _ _ j hj⟩, ⟨rfl, rfl, fun j hj => updM X.sp t _ j⟩, trivial⟩
theorem ZMn (n nw ty : Nat) (hs : Nat -> Int) (X : MS) (t : Nat) (v : Int) (ht : t < n) (hn : n <= 64) (hnw : nw <= 4096) (hT : X.S.T = ty) (hok : X.S.inv n) (hi : X.i <= 90000) (hv : X.S.ss.st t = v) (hv2 : v = 1 \/ v = 3) (e : Int) (l : Bool) (S' : LK) (s' : PS) (hr : X.mid n nw t = (⟨e, true, false, l⟩, S', s')) :
  ZAE Tryz.prog 94 (ZCH n nw ty 3 hs X) 5 [.l (.p 0 0 0 0), .l (.v (.int .i64 t))] fun x h k =>
   x = ZAR true /\ k = 6 /\ h = ZCH n nw ty 5 hs ((MS.mk S' s' X.i X.rows X.now X.idle (updF X.sp t (incZ (X.sp t)))).did ⟨e, true, false, l⟩ t) := by
 have hst := ZGa X.S n t hn
 have hin : inW n (t : Int) = true := by simp [inW]; omega
 simp only [stV, hin, pick, Int.toNat_natCast, hv] at hst
 have hsp := ZLr X.S n n nw t t X.now hs X.s ht hn hn hnw hok
 unfold MS.mid at hr
 rw [hr] at hsp
 rw [hT] at hst hsp
 refine sE Tryz.func94 ic94_eq [.t 4] fun G hP hA => ?_
 unfold evF ic94 MS.did
 rcases hv2 with rfl | rfl
 all_goals
  have h0 := ZAZ ty n (X.i) X.now X.idle 2 t (X.rows) (by omega)
  have ha := ZAZ ty n (X.i + 1) X.now X.idle 4 t (ZBF (X.rows) (X.i) (rowT 2 t X.now false)) (by omega)
  have hb := ZAZ ty n (X.i + 1) X.now X.idle 5 t (ZBF (X.rows) (X.i) (rowT 2 t X.now false)) (by omega)
  have hc := ZAZ ty n (X.i + 1) X.now X.idle 8 t (ZBF (X.rows) (X.i) (rowT 2 t X.now false)) (by omega)
  have hd := ZAZ ty n (X.i + 1) X.now X.idle 7 t (ZBF (X.rows) (X.i) (rowT 2 t X.now false)) (by omega)
  by_cases e1 : e = 1 <;> by_cases e2 : e = 2 <;> by_cases e6 : e = 6 <;> by_cases e3 : e = 3
  all_goals first | (exfalso; omega) | skip
  all_goals
   simp only [e1, e2, e6, e3, Int.reduceEq, decide_true, decide_false, pick]
   conv => whnf
   refine gr7 natL h0 ha hb hc hd hst hsp ?_
   refine fQ ?_ ?_
   ·rfl
   ·first
     | exact ⟨rfl, ZAB, ZAB, ⟨rfl, rfl, fun j hj => rfl⟩, ⟨rfl, rfl, fun j hj => updM X.sp t _ j⟩, trivial⟩
     | exact ⟨rfl, ZAB, ZAB, ⟨rfl, rfl, fun j hj => ZPd _ _ _ _ _ _ j hj⟩, ⟨rfl, rfl, fun j hj => updM X.sp t _ j⟩, trivial⟩
theorem ZMo (n nw ty : Nat) (hs : Nat -> Int) (X : MS) (t : Nat) (v : Int) (ht : t < n) (hn : n <= 64) (hnw : nw <= 4096) (hT : X.S.T = ty) (hok : X.S.inv n) (hi : X.i <= 90000) (hv : X.S.ss.st t = v) (hv2 : v = 1 \/ v = 3) (e : Int) (l : Bool) (S' : LK) (s' : PS) (hr : X.mid n nw t = (⟨e, false, true, l⟩, S', s')) :
  ZAE Tryz.prog 94 (ZCH n nw ty 3 hs X) 5 [.l (.p 0 0 0 0), .l (.v (.int .i64 t))] fun x h k =>
   x = ZAR true /\ k = 6 /\ h = ZCH n nw ty 5 hs ((MS.mk S' s' X.i X.rows X.now X.idle (updF X.sp t (incZ (X.sp t)))).did ⟨e, false, true, l⟩ t) := by
 have hst := ZGa X.S n t hn
 have hin : inW n (t : Int) = true := by simp [inW]; omega
 simp only [stV, hin, pick, Int.toNat_natCast, hv] at hst
 have hsp := ZLr X.S n n nw t t X.now hs X.s ht hn hn hnw hok
 unfold MS.mid at hr
 rw [hr] at hsp
 rw [hT] at hst hsp
 refine sE Tryz.func94 ic94_eq [.t 4] fun G hP hA => ?_
 unfold evF ic94 MS.did
 rcases hv2 with rfl | rfl
 all_goals
  have h0 := ZAZ ty n (X.i) X.now X.idle 3 t (X.rows) (by omega)
  have ha := ZAZ ty n (X.i + 1) X.now X.idle 4 t (ZBF (X.rows) (X.i) (rowT 3 t X.now false)) (by omega)
  have hb := ZAZ ty n (X.i + 1) X.now X.idle 5 t (ZBF (X.rows) (X.i) (rowT 3 t X.now false)) (by omega)
  have hc := ZAZ ty n (X.i + 1) X.now X.idle 8 t (ZBF (X.rows) (X.i) (rowT 3 t X.now false)) (by omega)
  have hd := ZAZ ty n (X.i + 1) X.now X.idle 7 t (ZBF (X.rows) (X.i) (rowT 3 t X.now false)) (by omega)
  by_cases e1 : e = 1 <;> by_cases e2 : e = 2 <;> by_cases e6 : e = 6 <;> by_cases e3 : e = 3
  all_goals first | (exfalso; omega) | skip
  all_goals
   simp only [e1, e2, e6, e3, Int.reduceEq, decide_true, decide_false, pick]
   conv => whnf
   refine gr7 natL h0 ha hb hc hd hst hsp ?_
   refine fQ ?_ ?_
   ·rfl
   ·first
     | exact ⟨rfl, ZAB, ZAB, ⟨rfl, rfl, fun j hj => rfl⟩, ⟨rfl, rfl, fun j hj => updM X.sp t _ j⟩, trivial⟩
     | exact ⟨rfl, ZAB, ZAB, ⟨rfl, rfl, fun j hj => ZPd _ _ _ _ _ _ j hj⟩, ⟨rfl, rfl, fun j hj => updM X.sp t _ j⟩, trivial⟩
theorem ZMp (n nw ty : Nat) (hs : Nat -> Int) (X : MS) (t : Nat) (v : Int) (ht : t < n) (hn : n <= 64) (hnw : nw <= 4096) (hT : X.S.T = ty) (hok : X.S.inv n) (hi : X.i <= 90000) (hv : X.S.ss.st t = v) (hv2 : v = 1 \/ v = 3) (e : Int) (l : Bool) (S' : LK) (s' : PS) (hr : X.mid n nw t = (⟨e, false, false, l⟩, S', s')) :
  ZAE Tryz.prog 94 (ZCH n nw ty 3 hs X) 5 [.l (.p 0 0 0 0), .l (.v (.int .i64 t))] fun x h k =>
   x = ZAR true /\ k = 6 /\ h = ZCH n nw ty 5 hs ((MS.mk S' s' X.i X.rows X.now X.idle (updF X.sp t (incZ (X.sp t)))).did ⟨e, false, false, l⟩ t) := by
 have hst := ZGa X.S n t hn
 have hin : inW n (t : Int) = true := by simp [inW]; omega
 simp only [stV, hin, pick, Int.toNat_natCast, hv] at hst
 have hsp := ZLr X.S n n nw t t X.now hs X.s ht hn hn hnw hok
 unfold MS.mid at hr
 rw [hr] at hsp
 rw [hT] at hst hsp
 refine sE Tryz.func94 ic94_eq [.t 4] fun G hP hA => ?_
 unfold evF ic94 MS.did
 rcases hv2 with rfl | rfl
 all_goals
  have ha := ZAZ ty n (X.i) X.now X.idle 4 t (X.rows) (by omega)
  have hb := ZAZ ty n (X.i) X.now X.idle 5 t (X.rows) (by omega)
  have hc := ZAZ ty n (X.i) X.now X.idle 8 t (X.rows) (by omega)
  have hd := ZAZ ty n (X.i) X.now X.idle 7 t (X.rows) (by omega)
  by_cases e1 : e = 1 <;> by_cases e2 : e = 2 <;> by_cases e6 : e = 6 <;> by_cases e3 : e = 3
  all_goals first | (exfalso; omega) | skip
  all_goals
   simp only [e1, e2, e6, e3, Int.reduceEq, decide_true, decide_false, pick]
   conv => whnf
   refine gr6 natL ha hb hc hd hst hsp ?_
   refine fQ ?_ ?_
   ·rfl
   ·first
     | exact ⟨rfl, ZAB, ZAB, ⟨rfl, rfl, fun j hj => rfl⟩, ⟨rfl, rfl, fun j hj => updM X.sp t _ j⟩, trivial⟩
     | exact ⟨rfl, ZAB, ZAB, ⟨rfl, rfl, fun j hj => ZPd _ _ _ _ _ _ j hj⟩, ⟨rfl, rfl, fun j hj => updM X.sp t _ j⟩, trivial⟩
structure MOk (n ty : Nat) (X : MS) : Prop where
 T : X.S.T = ty
 inv : X.S.inv n
 now : 0 <= X.now /\ X.now <= 1099511627776
 i : X.i <= 90000
theorem ZKr (n nw ty : Nat) (hs : Nat -> Int) (X : MS) (t v : Int) (hn : n <= 64) (hT : X.S.T = ty) (hv : stV n X.S.ss.st t = v) (h1 : ¬ v = 1) (h3 : ¬ v = 3) :
  ZAE Tryz.prog 94 (ZCH n nw ty 3 hs X) 5 [.l (.p 0 0 0 0), .l (.v (.int .i64 t))] fun x h k => x = ZAR false /\ k = 6 /\ h = ZCH n nw ty 5 hs X := by
 have hst := ZGa X.S n t hn
 rw [hv, hT] at hst
 refine sE Tryz.func94 ic94_eq [.t 4] fun G hP hA => ?_
 unfold evF ic94
 conv => whnf
 refine g1 hst ?_
 exact fA
theorem MS.busy_in {n : Nat} {X : MS} {t : Int} (h : X.busy n t = true) : ∃ i : Nat, i < n /\ t = i /\ (X.S.ss.st i = 1 \/ X.S.ss.st i = 3) := by
 unfold MS.busy at h
 rcases ZAY n t with ⟨hb, i, hi, rfl⟩ | ⟨hb, ho⟩
 ·refine ⟨i, hi, rfl, ?_⟩
  simpa [stV, hb, pick] using h
 ·simp [stV, hb, pick] at h
theorem ZIM (n nw ty : Nat) (hs : Nat -> Int) (X : MS) (t : Int) (hn : n <= 64) (hnw : nw <= 4096) (H : MOk n ty X) :
  ZAE Tryz.prog 94 (ZCH n nw ty 3 hs X) 5 [.l (.p 0 0 0 0), .l (.v (.int .i64 t))] fun x h k => x = ZAR (X.stp n nw t).1 /\ k = 6 /\ h = ZCH n nw ty 5 hs (X.stp n nw t).2 := by
 unfold MS.stp
 cases hb : X.busy n t with
 | true =>
  obtain ⟨i, hi, rfl, hv⟩ := MS.busy_in hb
  simp only [Int.toNat_natCast]
  rcases hr : X.mid n nw i with ⟨⟨e, q, a, l⟩, S', s'⟩
  cases q <;> cases a
  ·exact ZMp n nw ty hs X i _ hi hn hnw H.T H.inv H.i rfl hv e l S' s' hr
  ·exact ZMo n nw ty hs X i _ hi hn hnw H.T H.inv H.i rfl hv e l S' s' hr
  ·exact ZMn n nw ty hs X i _ hi hn hnw H.T H.inv H.i rfl hv e l S' s' hr
  ·exact ZMm n nw ty hs X i _ hi hn hnw H.T H.inv H.i rfl hv e l S' s' hr
 | false =>
  simp only [MS.busy, Bool.or_eq_false_iff, decide_eq_false_iff_not] at hb
  exact ZKr n nw ty hs X t _ hn H.T rfl hb.1 hb.2
def MS.till (X : MS) (w : Int) : Int := pick (decide (0 <= w)) (X.now + min w 1073741824) (-1)
def MS.wS (X : MS) (S : LK) : MS := ⟨S, X.s, X.i, X.rows, X.now, X.idle, X.sp⟩
def MS.cal (n : Nat) (X : MS) (t w : Int) : Bool × MS :=
 pick (decide (lkE n X.S.ss.st X.S.tm t (X.till w) = 0)) (true, (X.wS (X.S.lock n t (X.till w))).ent 1 t false) (false, X.wS (X.S.lock n t (X.till w)))
theorem ZIN (n nw ty : Nat) (hs : Nat -> Int) (X : MS) (t w : Int) (hn : n <= 64) (H : MOk n ty X) :
  ZAE Tryz.prog 96 (ZCH n nw ty 3 hs X) 5 [.l (.p 0 0 0 0), .l (.v (.int .i64 t)), .l (.v (.int .i64 w))] fun x h k => x = ZAR (X.cal n t w).1 /\ k = 6 /\ h = ZCH n nw ty 5 hs (X.cal n t w).2 := by
 obtain ⟨hT, hinv, hnow, hi⟩ := H
 have hen := ZAZ ty n X.i X.now X.idle 1 t X.rows (by omega)
 refine sE Tryz.func96 ic96_eq [.t 6] fun G hP hA => ?_
 unfold evF ic96 MS.cal
 by_cases h0 : 0 <= w
 ·have hlk := ZQO X.S n t (X.now + min w 1073741824) hn
  simp only [MS.till, h0, decide_true, pick]
  by_cases e : lkE n X.S.ss.st X.S.tm t (X.now + min w 1073741824) = 0
  ·rw [e, hT] at hlk
   simp only [e, decide_true]
   conv => whnf
   refine g2 hen hlk ?_
   exact fA
  ·rw [hT] at hlk
   simp only [e, decide_false]
   conv => whnf
   refine g2 hen hlk ?_
   exact fA
 ·have hlk := ZQO X.S n t (-1) hn
  simp only [MS.till, h0, decide_false, pick]
  by_cases e : lkE n X.S.ss.st X.S.tm t (-1) = 0
  ·rw [e, hT] at hlk
   simp only [e, decide_true]
   conv => whnf
   refine g2 hen hlk ?_
   exact fA
  ·rw [hT] at hlk
   simp only [e, decide_false]
   conv => whnf
   refine g2 hen hlk ?_
   exact fA
def MS.tck (X : MS) : Bool × MS := pick (decide (1099511627776 <= X.now)) (false, X) (true, ⟨X.S, X.s, X.i, X.rows, X.now + 1, X.idle, X.sp⟩)
theorem ZIO (n nw ty : Nat) (hs : Nat -> Int) (X : MS) (H : MOk n ty X) :
  ZAE Tryz.prog 95 (ZCH n nw ty 3 hs X) 5 [.l (.p 0 0 0 0)] fun x h k => x = ZAR X.tck.1 /\ k = 6 /\ h = ZCH n nw ty 5 hs X.tck.2 := by
 obtain ⟨hT, hinv, hnow, hi⟩ := H
 refine sE Tryz.func95 ic95_eq [.t 2] fun G hP hA => ?_
 unfold evF ic95 MS.tck
 by_cases e : 1099511627776 <= X.now
 ·simp only [e, decide_true, pick]
  conv => whnf
  refine g0 ?_
  exact fA
 ·simp only [e, decide_false, pick]
  conv => whnf
  refine g0 ?_
  exact fA
def MS.fin (n : Nat) (X : MS) (t : Int) : Bool × MS := pick (decide (hoE n X.S.ss.st t = 0)) (true, (X.wS (X.S.unlock n t)).ent 6 t false) (false, X.wS (X.S.unlock n t))
def MS.do0 (n nw : Nat) (X : MS) (k t w : Int) : Bool × MS :=
 pick (decide (k = 1)) (X.stp n nw t) (pick (decide (k = 2)) X.tck (pick (decide (k = 3)) (X.cal n t w) (pick (decide (k = 4)) (X.fin n t) (false, X))))
def evA (k t w : Int) : AV := .a [.v (.int .i64 k), .v (.int .i64 t), .v (.int .i64 w)]
theorem ZJf (n nw ty : Nat) (hs : Nat -> Int) (X : MS) (kd t w : Int) (hn : n <= 64) (hnw : nw <= 4096) (H : MOk n ty X) :
  ZAE Tryz.prog 56 (ZCH n nw ty 3 hs X) 5 [.l (.p 0 0 0 0), evA kd t w] fun x h k => x = ZAR (X.do0 n nw kd t w).1 /\ k = 6 /\ h = ZCH n nw ty 5 hs (X.do0 n nw kd t w).2 := by
 have hsp := ZIM n nw ty hs X t hn hnw H
 have htk := ZIO n nw ty hs X H
 have hcl := ZIN n nw ty hs X t w hn H
 obtain ⟨hT, hinv, hnow, hi⟩ := H
 have hen := ZAZ ty n X.i X.now X.idle 6 t X.rows (by omega)
 have hul := ZPc X.S n t hn
 refine sE Tryz.func56 ic56_eq [.t 4] fun G hP hA => ?_
 unfold evF ic56 MS.do0
 by_cases k1 : kd = 1
 ·simp only [k1, decide_true, pick]
  conv => whnf
  refine g1 hsp ?_
  exact fA
 by_cases k2 : kd = 2
 ·simp only [Int.reduceEq, k2, decide_true, decide_false, pick]
  conv => whnf
  refine g1 htk ?_
  exact fA
 by_cases k3 : kd = 3
 ·simp only [Int.reduceEq, k3, decide_true, decide_false, pick]
  conv => whnf
  refine g1 hcl ?_
  exact fA
 by_cases k4 : kd = 4
 ·simp only [Int.reduceEq, k4, decide_true, decide_false, pick, MS.fin]
  by_cases e : hoE n X.S.ss.st t = 0
  ·rw [e, hT] at hul
   simp only [e, decide_true]
   conv => whnf
   refine g2 hen hul ?_
   exact fA
  ·rw [hT] at hul
   simp only [e, decide_false]
   conv => whnf
   refine g2 hen hul ?_
   exact fA
 ·simp only [k1, k2, k3, k4, decide_false, pick]
  conv => whnf
  refine g0 ?_
  exact fA
def MS.Do (n nw : Nat) (X : MS) (k t w : Int) : Bool × MS :=
 match X.do0 n nw k t w with
 | (true, Y) => (true, Y)
 | (false, Y) => (false, ⟨Y.S, Y.s, Y.i, Y.rows, Y.now, incZ Y.idle, Y.sp⟩)
theorem ZKs (n nw ty : Nat) (hs : Nat -> Int) (X : MS) (kd t w : Int) (hn : n <= 64) (hnw : nw <= 4096) (H : MOk n ty X) :
  ZAE Tryz.prog 24 (ZCH n nw ty 3 hs X) 5 [.l (.p 0 0 0 0), evA kd t w] fun x h k => x = ZAR (X.Do n nw kd t w).1 /\ k = 6 /\ h = ZCH n nw ty 5 hs (X.Do n nw kd t w).2 := by
 have hd := ZJf n nw ty hs X kd t w hn hnw H
 refine sE Tryz.func24 ic24_eq [.t 4] fun G hP hA => ?_
 unfold evF ic24 MS.Do
 rcases hr : X.do0 n nw kd t w with ⟨b, Y⟩
 rw [hr] at hd
 cases b
 ·simp only
  conv => whnf
  refine g1 hd ?_
  exact fA
 ·simp only
  conv => whnf
  refine g1 hd ?_
  exact fA
structure Ext (b : Nat) (X Y : MS) : Prop where
 S : Y.S = X.S
 s : Y.s = X.s
 now : Y.now = X.now
 idle : Y.idle = X.idle
 sp : Y.sp = X.sp
 le : X.i <= Y.i
 most : Y.i <= X.i + b
 old : ∀ j, j < X.i -> Y.rows j = X.rows j
 new : ∀ j, X.i <= j -> j < Y.i -> ∃ k t l, Y.rows j = rowT k t X.now l
theorem Ext.refl (X : MS) : Ext 0 X X := ⟨rfl, rfl, rfl, rfl, rfl, Nat.le_refl _, Nat.le_refl _, fun _ _ => rfl, fun j h1 h2 => absurd h2 (by omega)⟩
theorem Ext.ent (X : MS) (k t : Int) (l : Bool) : Ext 1 X (X.ent k t l) := ⟨rfl, rfl, rfl, rfl, rfl, Nat.le_succ _, Nat.le_refl _, fun j h => by simp only [MS.ent, ZBF, if_pos h],
 fun j h1 h2 => ⟨k, t, l, by simp only [MS.ent, ZBF, if_neg (show ¬ j < X.i by omega)]⟩⟩
theorem Ext.trans {a b : Nat} {X Y Z : MS} (h : Ext a X Y) (g : Ext b Y Z) : Ext (a + b) X Z := by
 refine ⟨g.S.trans h.S, g.s.trans h.s, g.now.trans h.now, g.idle.trans h.idle, g.sp.trans h.sp, Nat.le_trans h.le g.le, ?_, fun j hj => ?_, fun j h1 h2 => ?_⟩
 ·have := h.most; have := g.most; omega
 ·rw [g.old j (Nat.lt_of_lt_of_le hj h.le), h.old j hj]
 ·by_cases hj : j < Y.i
  ·obtain ⟨k, t, l, e⟩ := h.new j h1 hj
   exact ⟨k, t, l, by rw [g.old j hj, e]⟩
  ·obtain ⟨k, t, l, e⟩ := g.new j (by omega) h2
   exact ⟨k, t, l, by rw [e, h.now]⟩
theorem Ext.mono {a b : Nat} {X Y : MS} (h : Ext a X Y) (hab : a <= b) : Ext b X Y := ⟨h.S, h.s, h.now, h.idle, h.sp, h.le, Nat.le_trans h.most (by omega), h.old, h.new⟩
theorem Ext.pick {a : Nat} {X Y : MS} (b : Bool) (h : Ext a X Y) : Ext a X (pick b Y X) := by
 cases b
 ·exact (Ext.refl X).mono (Nat.zero_le _)
 ·exact h
theorem ZQn (X : MS) (d : Dd) (t : Int) : Ext 3 X (X.did d t) := by
 have h1 : Ext 1 X (pick d.q (X.ent 2 t false) X) := Ext.pick _ (Ext.ent X 2 t false)
 unfold MS.did
 generalize Go.Proofs.YtlkfolopbehikaaGreat.pick d.q (X.ent 2 t false) X = X1 at h1 ⊢
 have h2 : Ext 2 X (Go.Proofs.YtlkfolopbehikaaGreat.pick d.a (X1.ent 3 t false) X1) := h1.trans (Ext.pick _ (Ext.ent X1 3 t false))
 simp only
 generalize Go.Proofs.YtlkfolopbehikaaGreat.pick d.a (X1.ent 3 t false) X1 = X2 at h2 ⊢
 have e : ∀ k l, Ext 3 X (X2.ent k t l) := fun k l => h2.trans (Ext.ent X2 k t l)
 exact ZAT _ _ _ (e _ _) (ZAT _ _ _ (e _ _) (ZAT _ _ _ (e _ _) (ZAT _ _ _ (e _ _) (h2.mono (by omega)))))
structure After (n ty : Nat) (k : Int) (X Y : MS) : Prop where
 ok : MOk n ty Y
 le : X.i <= Y.i
 most : Y.i <= X.i + 3
 old : ∀ j, j < X.i -> Y.rows j = X.rows j
 new : ∀ j, X.i <= j -> j < Y.i -> ∃ k t l, Y.rows j = rowT k t Y.now l
 now : Y.now = X.now + if k = 2 then 1 else 0
theorem Ext.after {n ty : Nat} {X X0 Y : MS} (h : Ext 3 X0 Y) (H : MOk n ty X) (hT : X0.S.T = ty) (hv : X0.S.inv n) (h1 : X0.now = X.now) (h2 : X0.i = X.i) (h3 : X0.rows = X.rows) (hi : X.i + 3 <= 90000) {k : Int} (hk : k ≠ 2) : After n ty k X Y := by
 refine ⟨⟨by rw [h.S]; exact hT, by rw [h.S]; exact hv, by rw [h.now, h1]; exact H.now, ?_⟩, ?_, ?_, fun j hj => ?_, fun j ha hb => ?_, ?_⟩
 ·have := h.most; omega
 ·have := h.le; omega
 ·have := h.most; omega
 ·rw [h.old j (by omega), h3]
 ·rw [h.now]; exact h.new j (by omega) hb
 ·rw [h.now, h1, if_neg hk]; omega
theorem MOk.same {n ty : Nat} {X : MS} (H : MOk n ty X) {k : Int} (hk : k ≠ 2) : After n ty k X X := ⟨H, Nat.le_refl _, Nat.le_add_right _ _, fun _ _ => rfl, fun j h1 h2 => absurd h1 (Nat.not_le.2 h2), by rw [if_neg hk]; omega⟩
theorem ZOJ {n nw ty : Nat} {X : MS} (k t w : Int) (H : MOk n ty X) (hi : X.i + 3 <= 90000) (hnow : X.now < 1099511627776) : After n ty k X (X.do0 n nw k t w).2 := by
 unfold MS.do0
 by_cases k1 : k = 1
 ·simp only [k1, decide_true, Go.Proofs.YtlkfolopbehikaaGreat.pick]
  unfold MS.stp
  cases hb : X.busy n t with
  | true =>
   simp only
   refine (ZQn (MS.mk (X.mid n nw t.toNat).2.1 (X.mid n nw t.toNat).2.2 X.i X.rows X.now X.idle (updF X.sp t.toNat (incZ (X.sp t.toNat)))) _ _).after (k := 1) H ?_ ?_ rfl rfl rfl hi (by omega)
   ·simp only [MS.mid]; rw [LK.T_step]; exact H.T
   ·exact LK.inv_step H.inv _ _ _ _ _
  | false =>
   simp only
   exact H.same (by omega)
 by_cases k2 : k = 2
 ·subst k2
  simp only [show ¬ (2 : Int) = 1 by omega, decide_true, decide_false, Go.Proofs.YtlkfolopbehikaaGreat.pick, MS.tck, show ¬ (1099511627776 : Int) <= X.now by omega]
  refine ⟨⟨H.T, H.inv, ?_, H.i⟩, Nat.le_refl _, by simp, fun _ _ => rfl, fun j h1 h2 => absurd h1 (Nat.not_le.2 h2), ?_⟩
  ·have := H.now; simp only; omega
  ·simp
 by_cases k3 : k = 3
 ·simp only [k3, show ¬ (3 : Int) = 1 by omega, show ¬ (3 : Int) = 2 by omega, decide_true, decide_false, Go.Proofs.YtlkfolopbehikaaGreat.pick, MS.cal]
  have e : ∀ Y : MS, Ext 3 (X.wS (X.S.lock n t (X.till w))) Y -> After n ty 3 X Y := fun Y h => h.after H (by simp only [MS.wS, LK.lock]; rw [LK.T_set]; exact H.T) (LK.inv_lock H.inv _ _) rfl rfl rfl hi (by omega)
  exact ZAT (P := fun r : Bool × MS => After n ty 3 X r.2) _ _ _ (e _ ((Ext.ent _ 1 t false).mono (by omega))) (e _ ((Ext.refl _).mono (by omega)))
 by_cases k4 : k = 4
 ·simp only [k4, show ¬ (4 : Int) = 1 by omega, show ¬ (4 : Int) = 2 by omega, show ¬ (4 : Int) = 3 by omega, decide_true, decide_false, Go.Proofs.YtlkfolopbehikaaGreat.pick, MS.fin]
  have e : ∀ Y : MS, Ext 3 (X.wS (X.S.unlock n t)) Y -> After n ty 4 X Y := fun Y h => h.after H (by simp only [MS.wS, LK.unlock]; rw [LK.T_set]; exact H.T) (LK.inv_unlock H.inv _) rfl rfl rfl hi (by omega)
  exact ZAT (P := fun r : Bool × MS => After n ty 4 X r.2) _ _ _ (e _ ((Ext.ent _ 6 t false).mono (by omega))) (e _ ((Ext.refl _).mono (by omega)))
 ·simp only [k1, k2, k3, k4, decide_false, Go.Proofs.YtlkfolopbehikaaGreat.pick]
  exact H.same k2
theorem ZPe {n nw ty : Nat} {X : MS} (k t w : Int) (H : MOk n ty X) (hi : X.i + 3 <= 90000) (hnow : X.now < 1099511627776) : After n ty k X (X.Do n nw k t w).2 := by
 have h := ZOJ (nw := nw) k t w H hi hnow
 unfold MS.Do
 rcases hr : X.do0 n nw k t w with ⟨b, Y⟩
 rw [hr] at h
 cases b
 ·exact ⟨⟨h.ok.T, h.ok.inv, h.ok.now, h.ok.i⟩, h.le, h.most, h.old, h.new, h.now⟩
 ·exact h
def evR (ek et ew : Nat -> Int) : Nat -> List Value := fun i => [.int .i64 (ek i), .int .i64 (et i), .int .i64 (ew i)]
def MS.run (n nw : Nat) (ek et ew : Nat -> Int) (X : MS) : Nat -> Int × MS
 | 0 => (0, X)
 | i + 1 => ((MS.run n nw ek et ew X i).1 + (match ((MS.run n nw ek et ew X i).2.Do n nw (ek i) (et i) (ew i)).1 with | true => 1 | false => 0), ((MS.run n nw ek et ew X i).2.Do n nw (ek i) (et i) (ew i)).2)
structure Ran (n ty k : Nat) (X Y : MS) : Prop where
 ok : MOk n ty Y
 most : Y.i <= X.i + 3 * k
 now : X.now <= Y.now /\ Y.now <= X.now + k
theorem ZKu {n nw ty : Nat} (ek et ew : Nat -> Int) {X : MS} (H : MOk n ty X) {l : Nat} (hi : X.i + 3 * l <= 90000) (hnow : X.now + l <= 1099511627776) : ∀ k, k <= l -> Ran n ty k X (MS.run n nw ek et ew X k).2 /\ 0 <= (MS.run n nw ek et ew X k).1 /\ (MS.run n nw ek et ew X k).1 <= k
 | 0, _ => ⟨⟨H, by simp [MS.run], by simp [MS.run]⟩, by simp [MS.run], by simp [MS.run]⟩
 | k + 1, hk => by
  obtain ⟨⟨h1, h2, h3⟩, h4, h5⟩ := ZKu ek et ew H hi hnow k (by omega)
  have hd := ZPe (nw := nw) (ek k) (et k) (ew k) h1 (by omega) (by omega)
  refine ⟨⟨hd.ok, ?_, ?_⟩, ?_, ?_⟩
  ·have := hd.most
   show ((MS.run n nw ek et ew X k).2.Do n nw (ek k) (et k) (ew k)).2.i <= _
   omega
  ·have := hd.now
   show X.now <= ((MS.run n nw ek et ew X k).2.Do n nw (ek k) (et k) (ew k)).2.now /\ ((MS.run n nw ek et ew X k).2.Do n nw (ek k) (et k) (ew k)).2.now <= _
   split at this <;> omega
  ·show 0 <= (MS.run n nw ek et ew X k).1 + _
   split <;> omega
  ·show (MS.run n nw ek et ew X k).1 + _ <= _
   split <;> omega
theorem ZJh (n nw ty : Nat) (hs : Nat -> Int) (X : MS) (ek et ew : Nat -> Int) (l : Nat) (hn : n <= 64) (hnw : nw <= 4096) (H : MOk n ty X) (hi : X.i + 3 * l <= 90000) (hnow : X.now + l <= 1099511627776) (hl : l <= 10000) :
  ZAE Tryz.prog 27 (ZCH n nw ty 3 hs X ++ [(5, some (.ro 3 l (evR ek et ew)))]) 6 [.l (.p 0 0 0 0), .l (.s 5 3 0 l 0)] fun x h k =>
   x = sInt .i64 (MS.run n nw ek et ew X l).1 /\ k = 7 /\ h = ZCH n nw ty 6 hs (MS.run n nw ek et ew X l).2 := by
 refine sE Tryz.func27 ic27_eq [.t 4] fun G hP hA => ?_
 unfold evF ic27
 conv => whnf
 refine ZAg (α := Nat) (ds := []) (N := 7) (fun i => [(10, sInt .i64 (i : Int)), (5, sInt .i64 (MS.run n nw ek et ew X i).1)]) []
  (fun i => (3, none) :: ZCH n nw ty 6 hs (MS.run n nw ek et ew X i).2)
  (fun i => i <= l) (fun i => l - i) 0 (Nat.zero_le _) ?_ fun i hi2 => ?_
 ·exact iA
 ·obtain ⟨⟨h1, h2, h3⟩, h4, h5⟩ := ZKu (nw := nw) ek et ew H hi hnow i hi2
  have hd := ZKs n nw ty hs (MS.run n nw ek et ew X i).2 (ek i) (et i) (ew i) hn hnw h1
  conv => whnf
  refine dsplit (fun hq => ?_) (fun hq => ?_)
  ·have hq' : (i : Int) < (l : Int) := hq
   rcases hD : (MS.run n nw ek et ew X i).2.Do n nw (ek i) (et i) (ew i) with ⟨b, Y⟩
   rw [hD] at hd
   cases b with
   | true =>
    have e : MS.run n nw ek et ew X (i + 1) = ((MS.run n nw ek et ew X i).1 + 1, Y) := by simp only [MS.run, hD]
    conv => whnf
    refine g1 hd ?_
    refine ⟨i + 1, by omega, by omega, ?_⟩
    simp only [e]
    exact iA
   | false =>
    have e : MS.run n nw ek et ew X (i + 1) = ((MS.run n nw ek et ew X i).1, Y) := by simp only [MS.run, hD, Int.add_zero]
    conv => whnf
    refine g1 hd ?_
    refine ⟨i + 1, by omega, by omega, ?_⟩
    simp only [e]
    exact iA
  ·have hq' : ¬ (i : Int) < (l : Int) := hq
   obtain rfl : i = l := by omega
   conv => whnf
   exact fA
theorem ZPk (nw : Nat) (nx ow : Int) (t ta : Nat) (L : FL) (s : PS) : (ZDI nw nx ow t ta L s).2.1.ss = L.ss := by
 unfold ZDI flLk
 refine ZAT (P := fun r : Dd × FL × PS => r.2.1.ss = L.ss) _ _ _ (by cases L.dr t <;> rfl) (ZAT (P := fun r : Dd × FL × PS => r.2.1.ss = L.ss) _ _ _ rfl (ZAT (P := fun r : Dd × FL × PS => r.2.1.ss = L.ss) _ _ _ rfl rfl))
theorem ZPl (nw : Nat) (tail : Int) (m t ta : Nat) (L : SL) (s : PS) : (ZDJ nw tail m t ta L s).2.1.ss = L.ss := by
 unfold ZDJ slLk
 have p := @ZAT (Dd × SL × PS) (fun r => r.2.1.ss = L.ss)
 exact p _ _ _ (p _ _ _ rfl (p _ _ _ rfl rfl)) (p _ _ _ rfl rfl)
theorem ZPm (nw : Nat) (tail : Int) (t ta : Nat) (L : CL) (s : PS) : (ZCn nw tail t ta L s).2.1.ss = L.ss := by
 unfold ZCn clLk
 have p := @ZAT (Dd × CL × PS) (fun r => r.2.1.ss = L.ss)
 exact p _ _ _ (p _ _ _ rfl (p _ _ _ rfl (p _ _ _ rfl rfl))) (p _ _ _ rfl (p _ _ _ rfl rfl))
theorem ZPn (nw : Nat) (tail : Int) (t ta : Nat) (L : ML) (s : PS) : (ZBp nw tail t ta L s).2.1.ss = L.ss := by
 unfold ZBp mcLk mcUl
 have p := @ZAT (Dd × ML × PS) (fun r => r.2.1.ss = L.ss)
 have p2 := @ZAT (Int × ML × PS) (fun r => r.2.1.ss = L.ss)
 exact p _ _ _ (p _ _ _ rfl (p _ _ _ rfl (p _ _ _ rfl (p _ _ _ rfl (p _ _ _ rfl rfl))))) (p _ _ _ (p2 _ _ _ rfl (p2 _ _ _ rfl rfl)) (p _ _ _ rfl rfl))
theorem ZPo (E nw : Nat) (tail : Int) (t ta : Nat) (now : Int) (L : AL) (s : PS) : (ZAz E nw tail t ta now L s).2.1.ss = L.ss := by
 unfold ZAz abLk abUl abSr abNx
 have p := @ZAT (Dd × AL × PS) (fun r => r.2.1.ss = L.ss)
 have p2 := @ZAT (Int × AL × PS) (fun r => r.2.1.ss = L.ss)
 have p3 := @ZAT AL (fun r => r.ss = L.ss)
 exact p _ _ _ (p _ _ _ rfl (p _ _ _ rfl (p _ _ _ rfl (p _ _ _ rfl (p _ _ _ rfl (p _ _ _ rfl (p _ _ _ (p3 _ _ _ rfl rfl) (p _ _ _ rfl rfl)))))))) (p _ _ _ (p2 _ _ _ rfl (p2 _ _ _ rfl (p2 _ _ _ rfl (p2 _ _ _ rfl (p2 _ _ _ rfl rfl))))) rfl)
theorem ZPp (nw : Nat) (tail : Int) (t ta : Nat) (L : HL) (s : PS) : (ZJL nw tail t ta L s).2.1.ss = L.ss := by
 unfold ZJL hiLk hiUl
 have p := @ZAT (Dd × HL × PS) (fun r => r.2.1.ss = L.ss)
 have p2 := @ZAT (Int × HL × PS) (fun r => r.2.1.ss = L.ss)
 exact p _ _ _ (p _ _ _ rfl (p _ _ _ rfl (p _ _ _ rfl (p _ _ _ rfl (p _ _ _ rfl (p _ _ _ rfl (p _ _ _ rfl (p _ _ _ rfl rfl)))))))) (p _ _ _ (p2 _ _ _ rfl rfl) rfl)
theorem K1.step_st (S : K1) {n t : Nat} (nw ta : Nat) (now : Int) (s : PS) (ht : t < n) : (S.step n nw t now ta s).2.1.ss.st = enSt S.ss.st t (S.step n nw t now ta s).1.e := by
 cases S with
 | fl nx ow L =>
  show (ZBX n nw nx ow t ta L s).2.1.ss.st = enSt L.ss.st t (ZBX n nw nx ow t ta L s).1.e
  rw [ZLu nx ow L s ht]
  show (enSS (ZDI nw nx ow t ta L s).2.1.ss t _).st = _
  rw [ZPk]; rfl
 | sl tail m L =>
  show (ZBn n nw tail m t ta L s).2.1.ss.st = enSt L.ss.st t (ZBn n nw tail m t ta L s).1.e
  rw [ZLv tail m L s ht]
  show (enSS (ZDJ nw tail m t ta L s).2.1.ss t _).st = _
  rw [ZPl]; rfl
 | cl tail L =>
  show (ZBQ n nw tail t ta L s).2.1.ss.st = enSt L.ss.st t (ZBQ n nw tail t ta L s).1.e
  rw [ZLw tail L s ht]
  show (enSS (ZCn nw tail t ta L s).2.1.ss t _).st = _
  rw [ZPm]; rfl
 | mc tail L =>
  show (ZBY n nw tail t ta L s).2.1.ss.st = enSt L.ss.st t (ZBY n nw tail t ta L s).1.e
  rw [ZLx tail L s ht]
  show (enSS (ZBp nw tail t ta L s).2.1.ss t _).st = _
  rw [ZPn]; rfl
 | ab E tail L =>
  show (ZBD E n nw tail t now ta L s).2.1.ss.st = enSt L.ss.st t (ZBD E n nw tail t now ta L s).1.e
  rw [ZLy tail now L s ht]
  have h : ∀ r : Dd × AL × PS, r.2.1.ss = L.ss -> (ZET t r).2.1.ss.st = enSt L.ss.st t (ZET t r).1.e := fun r hr => by
   unfold ZET
   cases enB r.2.1.ss.st t r.1.e <;> simp only [pick, hr] <;> rfl
  exact h _ (ZPo E nw tail t ta now L s)
 | hi tail L =>
  show (ZBo n nw tail t ta L s).2.1.ss.st = enSt L.ss.st t (ZBo n nw tail t ta L s).1.e
  unfold ZBo
  rw [ZDu ht]
  show (enSS (ZJL nw tail t ta L s).2.1.ss t _).st = _
  rw [ZPp]; rfl
def autS (st : Nat -> Int) (q : List Nat) (t : Nat) : Int := if st t = 1 then (if t ∈ q then 2 else 1) else if st t = 2 then 3 else if st t = 3 then 4 else 0
def autQ (st : Nat -> Int) (q : List Nat) : List Int := (q.filter fun t => decide (st t = 1)).map fun (t : Nat) => (t : Int)
structure Rel (n : Nat) (st : Nat -> Int) (q : List Nat) (A : (Nat -> Int) × List Int) : Prop where
 s : ∀ t, t < n -> A.1 t = autS st q t
 q : A.2 = autQ st q
theorem ZPq (l : List Nat) (t : Nat) : outZ (l.map fun (u : Nat) => (u : Int)) (t : Int) (l.map fun (u : Nat) => (u : Int)).length = (l.filter fun u => decide (u ≠ t)).map fun (u : Nat) => (u : Int) := by
 rw [ZKY _ _ _ (Nat.le_refl _), List.take_length, List.filter_map]
 congr 1
 apply List.filter_congr
 intro u _
 simp only [Function.comp]
 by_cases h : u = t
 ·subst h; simp
 ·have : (u : Int) ≠ (t : Int) := by omega
  simp [h, this]
theorem ZKv {n : Nat} {st : Nat -> Int} {q : List Nat} {A : (Nat -> Int) × List Int} (R : Rel n st q A) {t : Nat} (ht : t < n) {k v : Int} (hv : nxt (autS st q t) k = v) (h0 : 0 <= v) (h3 : v = 3 -> A.2.getD 0 0 = (t : Int) /\ ∀ u, u < n -> autS st q u ≠ 3) :
  tkOk n A.1 A.2 k (t : Int) false = true /\ tkS n A.1 A.2 k (t : Int) false = (fun i => if i = t then v else A.1 i) /\ tkQ n A.1 A.2 k (t : Int) false = (if autS st q t = 2 then outZ A.2 (t : Int) A.2.length else A.2) ++ (if v = 2 then [(t : Int)] else []) := by
 have hs : A.1 (t : Int).toNat = autS st q t := R.s t ht
 have ok : tkOk n A.1 A.2 k (t : Int) false = true := by
  unfold tkOk
  rw [hs, hv]
  refine decide_eq_true ⟨rfl, by omega, by omega, h0, fun e => ⟨(h3 e).1, fun hf => ?_⟩⟩
  obtain ⟨i, hi, e3⟩ := (ZNd A.1 3 n).1 hf
  rw [R.s i hi] at e3
  exact (h3 e).2 i hi e3
 refine ⟨ok, ?_, ?_⟩
 ·funext i
  unfold tkS
  rw [ok, hs, hv, Int.toNat_natCast]
  simp
 ·unfold tkQ
  rw [ok, hs, hv, if_pos rfl]
theorem ZDh {st : Nat -> Int} {q q' : List Nat} {t : Nat} {v : Int} {n : Nat} {A : (Nat -> Int) × List Int} (R : Rel n st q A) {w : Int} (hw : w = autS (updF st t v) q' t) (hq : ∀ u, u ≠ t -> (u ∈ q' ↔ u ∈ q)) : ∀ u, u < n -> (fun i => if i = t then w else A.1 i) u = autS (updF st t v) q' u := fun u hu => by
 by_cases h : u = t
 ·subst h; simp only [if_true]; exact hw
 ·simp only [if_neg h]
  rw [R.s u hu]
  unfold autS
  rw [ZAA _ _ h]
  simp only [hq u h]
theorem ZGE {st : Nat -> Int} {q : List Nat} {t : Nat} {v : Int} (h : t ∉ q \/ (st t ≠ 1 /\ v ≠ 1)) : autQ (updF st t v) q = autQ st q := by
 unfold autQ
 congr 1
 apply List.filter_congr
 intro u hu
 by_cases e : u = t
 ·subst e
  have h := h.resolve_left (fun hn => hn hu)
  rw [ZAC]; simp [h.1, h.2]
 ·rw [ZAA _ _ e]
theorem ZLz {st : Nat -> Int} {q : List Nat} {t : Nat} {v : Int} (h1 : v ≠ 1) : outZ (autQ st q) (t : Int) (autQ st q).length = autQ (updF st t v) q := by
 unfold autQ
 rw [ZPq, List.filter_filter]
 congr 1
 apply List.filter_congr
 intro u _
 by_cases e : u = t
 ·subst e; rw [ZAC]; simp [h1]
 ·rw [ZAA _ _ e]; simp [e]
theorem ZOX {n : Nat} {st : Nat -> Int} {q : List Nat} {A : (Nat -> Int) × List Int} (R : Rel n st q A) (H : QSt st n q) {t : Nat} (ht : t < n) (h : st t = 0) :
  tkOk n A.1 A.2 1 (t : Int) false = true /\ Rel n (updF st t 1) q (tkS n A.1 A.2 1 (t : Int) false, tkQ n A.1 A.2 1 (t : Int) false) := by
 have hq := H.idle t h
 have ha : autS st q t = 0 := by simp [autS, h]
 obtain ⟨h1, h2, h3⟩ := ZKv R ht (k := 1) (v := 1) (by rw [ha]; rfl) (by omega) (by omega)
 refine ⟨h1, ⟨?_, ?_⟩⟩
 ·rw [h2]; exact ZDh R (by simp [autS, ZAC, hq]) fun _ _ => Iff.rfl
 ·rw [h3, ha]; simp only [Int.reduceEq, if_false, List.append_nil]; rw [R.q, ZGE (.inl hq)]
theorem ZL0 {n : Nat} {st : Nat -> Int} {q : List Nat} {A : (Nat -> Int) × List Int} (R : Rel n st q A) {t : Nat} (ht : t < n) (h : st t = 1) (hq : t ∉ q) :
  tkOk n A.1 A.2 2 (t : Int) false = true /\ Rel n st (q ++ [t]) (tkS n A.1 A.2 2 (t : Int) false, tkQ n A.1 A.2 2 (t : Int) false) := by
 have ha : autS st q t = 1 := by simp [autS, h, hq]
 obtain ⟨h1, h2, h3⟩ := ZKv R ht (k := 2) (v := 2) (by rw [ha]; rfl) (by omega) (by omega)
 have e : st = updF st t 1 := (ZEm h).symm
 refine ⟨h1, ⟨?_, ?_⟩⟩
 ·rw [h2]
  have := ZDh (t := t) (q' := q ++ [t]) (v := 1) R (w := 2) (by simp [autS, ZAC]) fun u hu => by simp [hu]
  rw [ZEm h] at this
  exact this
 ·rw [h3, ha]; simp only [Int.reduceEq, if_false, if_true]; rw [R.q]; simp [autQ, h]
theorem ZHf {n : Nat} {st : Nat -> Int} {q : List Nat} {A : (Nat -> Int) × List Int} (R : Rel n st q A) (H : QSt st n q) {t : Nat} (ht : t < n) (h : st t = 1) (hh : q.head? = some t) :
  tkOk n A.1 A.2 4 (t : Int) false = true /\ Rel n (updF st t 2) q (tkS n A.1 A.2 4 (t : Int) false, tkQ n A.1 A.2 4 (t : Int) false) := by
 have ha : autS st q t = 2 := by simp [autS, h, ZBT hh]
 obtain ⟨h1, h2, h3⟩ := ZKv R ht (k := 4) (v := 3) (by rw [ha]; rfl) (by omega) fun _ => ⟨by
  rw [R.q]
  obtain ⟨r, rfl⟩ := ZBM hh
  simp [autQ, h], fun u hu e => by
  unfold autS at e
  by_cases e1 : st u = 1
  ·rw [if_pos e1] at e; split at e <;> omega
  ·rw [if_neg e1] at e
   by_cases e2 : st u = 2
   ·have := H.hold u (.inl e2)
    rw [hh] at this; cases this; omega
   ·rw [if_neg e2] at e; split at e <;> omega⟩
 refine ⟨h1, ⟨?_, ?_⟩⟩
 ·rw [h2]; exact ZDh R (by simp [autS, ZAC]) fun _ _ => Iff.rfl
 ·rw [h3, ha]; simp only [Int.reduceEq, if_false, if_true, List.append_nil]; rw [R.q]; exact ZLz (by omega)
theorem ZOY {n : Nat} {st : Nat -> Int} {q : List Nat} {A : (Nat -> Int) × List Int} (R : Rel n st q A) (H : QSt st n q) {t : Nat} (ht : t < n) (h : st t = 1) (hq : t ∈ q) :
  tkOk n A.1 A.2 5 (t : Int) false = true /\ Rel n (updF st t 0) (q.erase t) (tkS n A.1 A.2 5 (t : Int) false, tkQ n A.1 A.2 5 (t : Int) false) := by
 have ha : autS st q t = 2 := by simp [autS, h, hq]
 have hm : ∀ u, u ∈ q.erase t ↔ u ≠ t /\ u ∈ q := fun u => H.nd.mem_erase_iff
 obtain ⟨h1, h2, h3⟩ := ZKv R ht (k := 5) (v := 0) (by rw [ha]; rfl) (by omega) (by omega)
 refine ⟨h1, ⟨?_, ?_⟩⟩
 ·rw [h2]; exact ZDh R (by simp [autS, ZAC]) fun u hu => by simp [hm, hu]
 ·rw [h3, ha]; simp only [Int.reduceEq, if_false, if_true, List.append_nil]; rw [R.q, ZLz (v := 0) (by omega)]
  unfold autQ
  congr 1
  rw [H.nd.erase_eq_filter, List.filter_filter]
  apply List.filter_congr
  intro u _
  by_cases e : u = t
  ·subst e; simp [ZAC]
  ·simp [ZAA _ _ e, e]
theorem ZKw {n : Nat} {st : Nat -> Int} {q : List Nat} {A : (Nat -> Int) × List Int} (R : Rel n st q A) {t : Nat} (ht : t < n) (h : st t = 1) (hq : t ∉ q) :
  tkOk n A.1 A.2 8 (t : Int) false = true /\ Rel n (updF st t 0) q (tkS n A.1 A.2 8 (t : Int) false, tkQ n A.1 A.2 8 (t : Int) false) := by
 have ha : autS st q t = 1 := by simp [autS, h, hq]
 obtain ⟨h1, h2, h3⟩ := ZKv R ht (k := 8) (v := 0) (by rw [ha]; rfl) (by omega) (by omega)
 refine ⟨h1, ⟨?_, ?_⟩⟩
 ·rw [h2]; exact ZDh R (by simp [autS, ZAC]) fun _ _ => Iff.rfl
 ·rw [h3, ha]; simp only [Int.reduceEq, if_false, List.append_nil]; rw [R.q, ZGE (.inl hq)]
theorem ZKx {n : Nat} {st : Nat -> Int} {q : List Nat} {A : (Nat -> Int) × List Int} (R : Rel n st q A) {t : Nat} (ht : t < n) (h : st t = 2) :
  tkOk n A.1 A.2 6 (t : Int) false = true /\ Rel n (updF st t 3) q (tkS n A.1 A.2 6 (t : Int) false, tkQ n A.1 A.2 6 (t : Int) false) := by
 have ha : autS st q t = 3 := by simp [autS, h]
 obtain ⟨h1, h2, h3⟩ := ZKv R ht (k := 6) (v := 4) (by rw [ha]; rfl) (by omega) (by omega)
 refine ⟨h1, ⟨?_, ?_⟩⟩
 ·rw [h2]; exact ZDh R (by simp [autS, ZAC]) fun _ _ => Iff.rfl
 ·rw [h3, ha]; simp only [Int.reduceEq, if_false, List.append_nil]; rw [R.q, ZGE (.inr ⟨by omega, by omega⟩)]
theorem ZKy {n : Nat} {st : Nat -> Int} {q : List Nat} {A : (Nat -> Int) × List Int} (R : Rel n st q A) {t : Nat} (ht : t < n) (h : st t = 3) :
  tkOk n A.1 A.2 7 (t : Int) false = true /\ Rel n (updF st t 0) q (tkS n A.1 A.2 7 (t : Int) false, tkQ n A.1 A.2 7 (t : Int) false) := by
 have ha : autS st q t = 4 := by simp [autS, h]
 obtain ⟨h1, h2, h3⟩ := ZKv R ht (k := 7) (v := 0) (by rw [ha]; rfl) (by omega) (by omega)
 refine ⟨h1, ⟨?_, ?_⟩⟩
 ·rw [h2]; exact ZDh R (by simp [autS, ZAC]) fun _ _ => Iff.rfl
 ·rw [h3, ha]; simp only [Int.reduceEq, if_false, List.append_nil]; rw [R.q, ZGE (.inr ⟨by omega, by omega⟩)]
theorem ZQ1 {n : Nat} {st : Nat -> Int} {q : List Nat} {A : (Nat -> Int) × List Int} (R : Rel n st q A) {t : Nat} (h : st t = 3) (hh : q.head? = some t) : Rel n st q.tail A := by
 obtain ⟨r, rfl⟩ := ZBM hh
 refine ⟨fun u hu => ?_, ?_⟩
 ·rw [R.s u hu]
  unfold autS
  by_cases e : u = t
  ·subst e; simp [h]
  ·by_cases hr : u ∈ r <;> simp [e, hr]
 ·rw [R.q]; simp [autQ, h]
def kR (rows : Nat -> List Value) : Nat -> Int := fun j => match rows j with | (.int _ k :: _) => k | _ => 0
def tR (rows : Nat -> List Value) : Nat -> Int := fun j => match rows j with | (_ :: .int _ k :: _) => k | _ => 0
def aR (rows : Nat -> List Value) : Nat -> Int := fun j => match rows j with | (_ :: _ :: .int _ k :: _) => k | _ => 0
def noB : Nat -> Bool := fun _ => false
theorem ZJj {w : Nat} {k k' t t' : Nat -> Int} {b : Nat -> Bool} : ∀ i, (∀ j, j < i -> k j = k' j /\ t j = t' j) -> lkN w k t b i = lkN w k' t' b i
 | 0, _ => rfl
 | i + 1, h => by
  simp only [lkN]
  rw [ZJj i fun j hj => h j (by omega), (h i (by omega)).1, (h i (by omega)).2]
structure Fed (n i : Nat) (rows : Nat -> List Value) (st : Nat -> Int) (q : List Nat) : Prop where
 row : ∀ j, j < i -> rows j = rowT (kR rows j) (tR rows j) (aR rows j) false
 ok : ∀ j, j < i -> okN n (kR rows) (tR rows) noB j = true
 rel : Rel n st q (lkN n (kR rows) (tR rows) noB i)
theorem Fed.ent {n i : Nat} {rows : Nat -> List Value} {st st' : Nat -> Int} {q q' : List Nat} (F : Fed n i rows st q) {k now : Int} {t : Nat}
  (h : ∀ A, Rel n st q A -> tkOk n A.1 A.2 k (t : Int) false = true /\ Rel n st' q' (tkS n A.1 A.2 k (t : Int) false, tkQ n A.1 A.2 k (t : Int) false)) : Fed n (i + 1) (ZBF rows i (rowT k (t : Int) now false)) st' q' := by
 have o : ∀ j, j < i -> ZBF rows i (rowT k (t : Int) now false) j = rows j := fun j hj => by simp only [ZBF, if_pos hj]
 have e : ZBF rows i (rowT k (t : Int) now false) i = rowT k (t : Int) now false := by simp only [ZBF, Nat.lt_irrefl, if_false]
 have c : ∀ j, j < i -> kR (ZBF rows i (rowT k (t : Int) now false)) j = kR rows j /\ tR (ZBF rows i (rowT k (t : Int) now false)) j = tR rows j /\ aR (ZBF rows i (rowT k (t : Int) now false)) j = aR rows j := fun j hj => by
  unfold kR tR aR; rw [o j hj]; exact ⟨rfl, rfl, rfl⟩
 have ck : kR (ZBF rows i (rowT k (t : Int) now false)) i = k /\ tR (ZBF rows i (rowT k (t : Int) now false)) i = (t : Int) /\ aR (ZBF rows i (rowT k (t : Int) now false)) i = now := by
  unfold kR tR aR; rw [e]; exact ⟨rfl, rfl, rfl⟩
 have l : ∀ j, j <= i -> lkN n (kR (ZBF rows i (rowT k (t : Int) now false))) (tR (ZBF rows i (rowT k (t : Int) now false))) noB j = lkN n (kR rows) (tR rows) noB j := fun j hj => ZJj j fun m hm => ⟨(c m (by omega)).1, (c m (by omega)).2.1⟩
 obtain ⟨h1, h2⟩ := h _ F.rel
 refine ⟨fun j hj => ?_, fun j hj => ?_, ?_⟩
 ·by_cases hji : j < i
  ·obtain ⟨c1, c2, c3⟩ := c j hji
   rw [o j hji, c1, c2, c3]; exact F.row j hji
  ·obtain rfl : j = i := by omega
   rw [e, ck.1, ck.2.1, ck.2.2]
 ·by_cases hji : j < i
  ·unfold okN
   rw [l j (by omega), (c j hji).1, (c j hji).2.1]; exact F.ok j hji
  ·obtain rfl : j = i := by omega
   unfold okN
   rw [l j (Nat.le_refl _), ck.1, ck.2.1]; exact h1
 ·simp only [lkN]
  rw [l i (Nat.le_refl _), ck.1, ck.2.1]; exact h2
theorem Fed.rel' {n i : Nat} {rows : Nat -> List Value} {st : Nat -> Int} {q q' : List Nat} (F : Fed n i rows st q) (h : ∀ A, Rel n st q A -> Rel n st q' A) : Fed n i rows st q' := ⟨F.row, F.ok, h _ F.rel⟩
structure FOk (n nw : Nat) (X : MS) (q : List Nat) : Prop where
 S : ∃ S, X.S = .s S /\ S.Q n nw X.s.ws q /\ S.inv n
 fed : Fed n X.i X.rows X.S.ss.st q
theorem K1.set_self (S : K1) : S.set S.ss.st S.ss.dl = S := by cases S <;> rfl
theorem ZPr {n : Nat} {st : Nat -> Int} {tm : Bool} {t d : Int} (h : lkE n st tm t d = 0) : ∃ i : Nat, i < n /\ t = i /\ st i = 0 := by
 unfold lkE at h
 rcases ZAY n t with ⟨hb, i, hi, rfl⟩ | ⟨hb, ho⟩
 ·refine ⟨i, hi, rfl, ?_⟩
  rw [hb] at h
  cases hd : (decide (d < -1) || decide (0 <= d) && !tm) with
  | true => simp only [Bool.not_true, Bool.false_or, hd, pick] at h; omega
  | false =>
   simp only [Bool.not_true, Bool.false_or, hd, pick, Int.toNat_natCast] at h
   by_cases e : st i = 0
   ·exact e
   ·simp [e] at h
 ·simp [hb, pick] at h
theorem ZPs {n : Nat} {st : Nat -> Int} {t : Int} (h : hoE n st t = 0) : ∃ i : Nat, i < n /\ t = i /\ st i = 2 := by
 unfold hoE at h
 rcases ZAY n t with ⟨hb, i, hi, rfl⟩ | ⟨hb, ho⟩
 ·refine ⟨i, hi, rfl, ?_⟩
  simp only [hb, Bool.not_true, pick, Int.toNat_natCast] at h
  by_cases e0 : st i = 0
  ·simp [e0] at h
  ·by_cases e : st i = 2
   ·exact e
   ·simp [e0, e] at h
 ·simp [hb, pick] at h
theorem ZKz {st : Nat -> Int} {t : Nat} {e : Int} (h : ZCP (st t) e < 0) : enSt st t e = st := by
 unfold enSt; rw [decide_eq_true h]; rfl
theorem ZGe {st : Nat -> Int} {t : Nat} {e v : Int} (h : ZCP (st t) e = v) (hv : 0 <= v) : enSt st t e = updF st t v := by
 unfold enSt; rw [h, decide_eq_false (by omega)]; rfl
theorem FOk.stp {n nw : Nat} {X : MS} {q : List Nat} (H : FOk n nw X q) (hn : n <= 64) (hnw : nw <= 4096) (t : Int) : (∃ q', FOk n nw (X.stp n nw t).2 q') /\ (X.stp n nw t).2.i <= X.i + 2 := by
 unfold MS.stp
 cases hb : X.busy n t with
 | false => exact ⟨⟨q, H⟩, Nat.le_add_right _ _⟩
 | true =>
  obtain ⟨i, hi, rfl, hv⟩ := MS.busy_in hb
  obtain ⟨⟨S, hS, hQ, hinv⟩, F⟩ := H
  have hqs := (K1.Q_qst hQ)
  obtain ⟨q', h1, m⟩ := K1.Q_step (ta := i) hQ hinv X.now hi hn hnw
  have hst := S.step_st nw i X.now X.s hi
  have hi2 := K1.inv_step hinv nw i (i : Int) X.now X.s
  simp only [MS.mid, Int.toNat_natCast, hS, LK.ss] at hv F ⊢
  rcases hr : S.step n nw (i : Int) X.now i X.s with ⟨⟨e, dq, da, dl⟩, S', s'⟩
  rw [hr] at h1 m hst hi2
  simp only at h1 m hst hi2
  obtain ⟨hal, hlk, hwt, hul, _⟩ := m
  obtain ⟨rfl, rfl⟩ : da = false /\ dl = false := hal
  simp only [LK.step, hr]
  have fin : ∀ (Y : MS) (p : List Nat), Y.S = .s S' -> Y.s = s' -> S'.Q n nw s'.ws p -> Fed n Y.i Y.rows S'.ss.st p -> ∃ q', FOk n nw Y q' := fun Y p a b c d => ⟨p, ⟨S', a, by rw [b]; exact c, hi2⟩, by rw [a]; exact d⟩
  rcases hv with hv | hv
  ·cases dq with
   | true =>
    obtain ⟨g1, g2, g3⟩ := hlk hv rfl
    simp only at g3
    rcases g3 with rfl | ⟨rfl, rfl⟩
    ·rw [ZKz (by rw [hv]; decide)] at hst
     simp only [MS.did, pick, Int.reduceEq, decide_false]
     refine ⟨fin _ q' rfl rfl h1 ?_, by simp only [MS.ent]; omega⟩
     rw [hst, g2]
     exact F.ent fun A R => ZL0 R hi hv g1
    ·rw [ZGe (v := 2) (by rw [hv]; decide) (by omega)] at hst
     simp only [MS.did, pick, Int.reduceEq, decide_false, decide_true]
     refine ⟨fin _ q' rfl rfl h1 ?_, by simp only [MS.ent]; omega⟩
     rw [hst, g2]
     exact (F.ent (q' := [] ++ [i]) fun A R => ZL0 R hi hv g1).ent fun A R => ZHf R (hqs.enq hi hv g1) hi hv rfl
   | false =>
    have g := hwt hv rfl
    simp only at g
    rcases g with ⟨rfl, rfl⟩ | ⟨rfl, g1, rfl⟩ | ⟨rfl, g1, rfl⟩ | ⟨rfl, g1, rfl⟩
    ·rw [ZKz (by rw [hv]; decide)] at hst
     simp only [MS.did, pick, Int.reduceEq, decide_false]
     exact ⟨fin _ q' rfl rfl h1 (by rw [hst]; exact F), by omega⟩
    ·rw [ZGe (v := 2) (by rw [hv]; decide) (by omega)] at hst
     simp only [MS.did, pick, Int.reduceEq, decide_false, decide_true]
     refine ⟨fin _ q' rfl rfl h1 ?_, by simp only [MS.ent]; omega⟩
     rw [hst]
     exact F.ent fun A R => ZHf R hqs hi hv g1
    ·rw [ZGe (v := 0) (by rw [hv]; decide) (by omega)] at hst
     simp only [MS.did, pick, Int.reduceEq, decide_false, decide_true]
     refine ⟨fin _ _ rfl rfl h1 ?_, by simp only [MS.ent]; omega⟩
     rw [hst]
     exact F.ent fun A R => ZOY R hqs hi hv g1
    ·rw [ZGe (v := 0) (by rw [hv]; decide) (by omega)] at hst
     simp only [MS.did, pick, Int.reduceEq, decide_false, decide_true]
     refine ⟨fin _ q' rfl rfl h1 ?_, by simp only [MS.ent]; omega⟩
     rw [hst]
     exact F.ent fun A R => ZKw R hi hv g1
  ·obtain ⟨g1, g2, g3⟩ := hul hv
   simp only at g1 g3
   subst g1
   have F' : Fed n X.i X.rows S.ss.st q' := by
    rcases g2 with rfl | ⟨g2, rfl⟩
    ·exact F
    ·exact F.rel' fun A R => ZQ1 R hv g2
   rcases g3 with rfl | ⟨rfl, g3⟩
   ·rw [ZKz (by rw [hv]; decide)] at hst
    simp only [MS.did, pick, Int.reduceEq, decide_false]
    exact ⟨fin _ q' rfl rfl h1 (by rw [hst]; exact F'), by omega⟩
   ·rw [ZGe (v := 0) (by rw [hv]; decide) (by omega)] at hst
    simp only [MS.did, pick, Int.reduceEq, decide_false, decide_true]
    refine ⟨fin _ q' rfl rfl h1 ?_, by simp only [MS.ent]; omega⟩
    rw [hst]
    exact F'.ent fun A R => ZKy R hi hv
theorem FOk.do0 {n nw : Nat} {X : MS} {q : List Nat} (H : FOk n nw X q) (hn : n <= 64) (hnw : nw <= 4096) (k t w : Int) : (∃ q', FOk n nw (X.do0 n nw k t w).2 q') /\ (X.do0 n nw k t w).2.i <= X.i + 2 := by
 have p := @ZAT (Bool × MS) (fun r => (∃ q', FOk n nw r.2 q') /\ r.2.i <= X.i + 2)
 obtain ⟨⟨S, hS, hQ, hinv⟩, F⟩ := id H
 unfold MS.do0
 refine p _ _ _ (H.stp hn hnw t) (p _ _ _ ?_ (p _ _ _ ?_ (p _ _ _ ?_ ⟨⟨q, H⟩, Nat.le_add_right _ _⟩)))
 ·unfold MS.tck
  exact p _ _ _ ⟨⟨q, H⟩, Nat.le_add_right _ _⟩ ⟨⟨q, ⟨S, hS, hQ, hinv⟩, F⟩, Nat.le_add_right _ _⟩
 ·unfold MS.cal
  by_cases e : lkE n X.S.ss.st X.S.tm t (X.till w) = 0
  ·obtain ⟨i, hi, rfl, h0⟩ := ZPr e
   simp only [e, decide_true, pick]
   have hst : lkSt n X.S.ss.st X.S.tm (i : Int) (X.till w) = updF X.S.ss.st i 1 := by unfold lkSt; rw [e]; rfl
   have hl := LK.inv_lock (S := .s S) hinv (i : Int) (X.till w)
   refine ⟨⟨q, ⟨⟨S.set (updF S.ss.st i 1) (lkDl n S.ss.st S.ss.dl S.tm (i : Int) (X.till w)), ?_, ?_, ?_⟩, ?_⟩⟩, by simp only [MS.ent, MS.wS]; omega⟩
   ·simp only [MS.ent, MS.wS, LK.lock, hst]; rw [hS]; rfl
   ·rw [hS] at h0; exact K1.Q_set1 hQ h0 _
   ·rw [hS] at hst
    unfold LK.lock at hl
    rw [hst] at hl; exact hl
   ·simp only [MS.ent, MS.wS, LK.lock, hst, LK.ss_set]
    exact F.ent fun A R => ZOX R (by rw [hS]; exact (K1.Q_qst hQ)) hi h0
  ·simp only [e, decide_false, pick]
   have hs : X.S.lock n t (X.till w) = X.S := by
    unfold LK.lock lkSt lkDl
    rw [decide_eq_false e]
    rw [hS]; exact congrArg LK.s (K1.set_self S)
   rw [hs]
   exact ⟨⟨q, ⟨S, hS, hQ, hinv⟩, F⟩, Nat.le_add_right _ _⟩
 ·unfold MS.fin
  by_cases e : hoE n X.S.ss.st t = 0
  ·obtain ⟨i, hi, rfl, h0⟩ := ZPs e
   simp only [e, decide_true, pick]
   have hst : ulSt n X.S.ss.st (i : Int) 3 = updF X.S.ss.st i 3 := by unfold ulSt; rw [e]; rfl
   have hl := LK.inv_unlock (S := .s S) hinv (i : Int)
   refine ⟨⟨q, ⟨⟨S.set (updF S.ss.st i 3) S.ss.dl, ?_, ?_, ?_⟩, ?_⟩⟩, by simp only [MS.ent, MS.wS]; omega⟩
   ·simp only [MS.ent, MS.wS, LK.unlock, hst]; rw [hS]; rfl
   ·rw [hS] at h0; exact K1.Q_set3 hQ h0 _
   ·rw [hS] at hst
    unfold LK.unlock at hl
    rw [hst] at hl; exact hl
   ·simp only [MS.ent, MS.wS, LK.unlock, hst, LK.ss_set]
    exact F.ent fun A R => ZKx R hi h0
  ·simp only [e, decide_false, pick]
   have hs : X.S.unlock n t = X.S := by
    unfold LK.unlock ulSt
    rw [decide_eq_false e]
    rw [hS]; exact congrArg LK.s (K1.set_self S)
   rw [hs]
   exact ⟨⟨q, ⟨S, hS, hQ, hinv⟩, F⟩, Nat.le_add_right _ _⟩
theorem FOk.Do {n nw : Nat} {X : MS} {q : List Nat} (H : FOk n nw X q) (hn : n <= 64) (hnw : nw <= 4096) (k t w : Int) : (∃ q', FOk n nw (X.Do n nw k t w).2 q') /\ (X.Do n nw k t w).2.i <= X.i + 2 := by
 have h := H.do0 hn hnw k t w
 unfold MS.Do
 rcases hr : X.do0 n nw k t w with ⟨b, Y⟩
 rw [hr] at h
 cases b
 ·obtain ⟨⟨q', h1, h2⟩, h3⟩ := h
  exact ⟨⟨q', h1, h2⟩, h3⟩
 ·exact h
theorem FOk.run {n nw : Nat} {X : MS} {q : List Nat} (H : FOk n nw X q) (hn : n <= 64) (hnw : nw <= 4096) (ek et ew : Nat -> Int) : ∀ l, (∃ q', FOk n nw (MS.run n nw ek et ew X l).2 q') /\ (MS.run n nw ek et ew X l).2.i <= X.i + 2 * l
 | 0 => ⟨⟨q, H⟩, Nat.le_refl _⟩
 | l + 1 => by
  obtain ⟨⟨q', h1⟩, h2⟩ := H.run hn hnw ek et ew l
  obtain ⟨h3, h4⟩ := h1.Do hn hnw (ek l) (et l) (ew l)
  exact ⟨h3, by simp only [MS.run]; omega⟩
theorem Fed.cnt {n i : Nat} {rows : Nat -> List Value} {st : Nat -> Int} {q : List Nat} (F : Fed n i rows st q) : ∀ j, j <= i -> cntN (okN n (kR rows) (tR rows) noB) j = j
 | 0, _ => rfl
 | j + 1, hj => by
  have ih := F.cnt j (by omega)
  have := F.ok j (by omega)
  simp only [cntN, ih, this]; simp
theorem ZIk (m : Nat) (h : Nat -> Int) (start : Nat) (slots pool budget glob loc : Int) (h2 : 1 <= m /\ m <= 64) (hb : anyZ badH h m = false)  :
  ZAE Tryz.prog 16 [(0, some (.ro 1 m (numE h)))] 1 [ZCR 1 0 m start slots pool budget glob loc] fun x h' kk => x = .t [.l (.p 3 0 0 0), .l (.v (.int .i64 0))] /\ kk = 5 /\
   h' = [(1, some (.ob [2] (ZAl (ZBt m 0 1 (fun _ => 0) (fun _ => -1) (fun _ => 0) fun _ => false) 5))), (2, some (ZBy m (2) (cutF (ZEX (fun _ => 0) 0 start) (2)) (ZGh (fun _ => 0) 0 h) (fun _ => 0) (fun _ => 0) (fun _ => 0) fun _ => 0)), (3, some (.st (ZNB 221 2 1 4 m))), (4, some (.ar 1 m (numE fun _ => 0)))] := by
 have hbn := ZJo h m start slots pool budget glob loc h2 hb
 have hsl := ZBd m (fun _ => 0) (fun _ => -1) false true
 refine sE Tryz.func16 ic16_eq [.t 2, .t 3] fun G hP hA => ?_
 unfold evF ic16
 conv => whnf
 refine cA (hbn) ?_
 refine ZAM (ZAS 2 rfl (by decide) rfl rfl rfl) ?_
 refine ZAP hP ZLF rfl rfl ?_
 conv => whnf
 refine cA (hsl) ?_
 refine zP ?_
 (refine ZAD (H := (ZBt m 0 1 (fun _ => 0) (fun _ => -1) (fun _ => 0) fun _ => false)) (np := 5) 2 1 (Nat.le_of_ble_eq_true rfl) ?_; conv => whnf); (refine zK ?_)
 exact fA
theorem ZIl (m : Nat) (h : Nat -> Int) (start slots : Nat) (pool budget glob loc : Int) (h2 : 1 <= m /\ m <= 64) (hb : anyZ badH h m = false) (hu : start < 4294967296) (hn : ZBW slots) (hmn : m <= slots) :
  ZAE Tryz.prog 16 [(0, some (.ro 1 m (numE h)))] 1 [ZCR 2 0 m start slots pool budget glob loc] fun x h' kk => x = .t [.l (.p 3 0 0 0), .l (.v (.int .i64 0))] /\ kk = 5 /\
   h' = [(1, some (.ob [2] (ZAl (ZA9 m 0 slots (fun _ => 0) (fun _ => -1) (fun _ => 0) (fun _ => 0)) 4))), (2, some (ZBy m (1 + slots) (cutF (ZDk (fun _ => 0) 0 start slots) (1 + slots)) (ZDj (fun _ => 0) 0 h m slots) (fun _ => 0) (fun _ => 0) (fun _ => 0) fun _ => 0)), (3, some (.st (ZNB 224 2 1 4 m))), (4, some (.ar 1 m (numE fun _ => 0)))] := by
 have hbn := ZJt h m start slots pool budget glob loc h2 hu hn hmn hb
 have hsl := ZBd m (fun _ => 0) (fun _ => -1) false false
 refine sE Tryz.func16 ic16_eq [.t 2, .t 3] fun G hP hA => ?_
 unfold evF ic16
 conv => whnf
 refine cA (hbn) ?_
 refine ZAM (ZAS 2 rfl (by decide) rfl rfl rfl) ?_
 refine ZAP hP ZJx rfl rfl ?_
 conv => whnf
 refine cA (hsl) ?_
 refine zP ?_
 (refine ZAD (H := (ZA9 m 0 slots (fun _ => 0) (fun _ => -1) (fun _ => 0) (fun _ => 0))) (np := 4) 2 1 (Nat.le_of_ble_eq_true rfl) ?_; conv => whnf); (refine zK ?_)
 exact fA
theorem ZIm (m : Nat) (h : Nat -> Int) (start : Nat) (slots pool budget glob loc : Int) (h2 : 1 <= m /\ m <= 64) (hb : anyZ badH h m = false)  :
  ZAE Tryz.prog 16 [(0, some (.ro 1 m (numE h)))] 1 [ZCR 3 0 m start slots pool budget glob loc] fun x h' kk => x = .t [.l (.p 3 0 0 0), .l (.v (.int .i64 0))] /\ kk = 5 /\
   h' = [(1, some (.ob [2] (ZAl (ZDL m 0 (fun _ => 0) (fun _ => -1) (fun i => i + 1) (fun _ => 0) (fun _ => 0)) 4))), (2, some (ZBy m (2 + m) (cutF (ZIV (fun _ => 0) 0 m) (2 + m)) (ZIU (fun _ => 0) 0 h m) (fun _ => 0) (fun _ => 0) (fun _ => 0) fun _ => 0)), (3, some (.st (ZNB 227 2 1 4 m))), (4, some (.ar 1 m (numE fun _ => 0)))] := by
 have hbn := ZJl h m start slots pool budget glob loc h2 hb
 have hsl := ZBd m (fun _ => 0) (fun _ => -1) false true
 refine sE Tryz.func16 ic16_eq [.t 2, .t 3] fun G hP hA => ?_
 unfold evF ic16
 conv => whnf
 refine cA (hbn) ?_
 refine ZAM (ZAS 2 rfl (by decide) rfl rfl rfl) ?_
 refine ZAP hP ZM3 rfl rfl ?_
 conv => whnf
 refine cA (hsl) ?_
 refine zP ?_
 (refine ZAD (H := (ZDL m 0 (fun _ => 0) (fun _ => -1) (fun i => i + 1) (fun _ => 0) (fun _ => 0))) (np := 4) 2 1 (Nat.le_of_ble_eq_true rfl) ?_; conv => whnf); (refine zK ?_)
 exact fA
theorem ZIn (m : Nat) (h : Nat -> Int) (start : Nat) (slots pool budget glob loc : Int) (h2 : 1 <= m /\ m <= 64) (hb : anyZ badH h m = false)  :
  ZAE Tryz.prog 16 [(0, some (.ro 1 m (numE h)))] 1 [ZCR 4 0 m start slots pool budget glob loc] fun x h' kk => x = .t [.l (.p 3 0 0 0), .l (.v (.int .i64 0))] /\ kk = 5 /\
   h' = [(1, some (.ob [2] (ZAl (ZDM m 0 (fun _ => 0) (fun _ => -1) (fun _ => 0) (fun _ => 0)) 4))), (2, some (ZBy m (1 + 2 * m) (cutF (ZIZ (fun _ => 0) 0 m) (1 + 2 * m)) (ZIY (fun _ => 0) 0 h m) (fun _ => 0) (fun _ => 0) (fun _ => 0) fun _ => 0)), (3, some (.st (ZNB 230 2 1 4 m))), (4, some (.ar 1 m (numE fun _ => 0)))] := by
 have hbn := ZJp h m start slots pool budget glob loc h2 hb
 have hsl := ZBd m (fun _ => 0) (fun _ => -1) false true
 refine sE Tryz.func16 ic16_eq [.t 2, .t 3] fun G hP hA => ?_
 unfold evF ic16
 conv => whnf
 refine cA (hbn) ?_
 refine ZAM (ZAS 2 rfl (by decide) rfl rfl rfl) ?_
 refine ZAP hP ZM4 rfl rfl ?_
 conv => whnf
 refine cA (hsl) ?_
 refine zP ?_
 (refine ZAD (H := (ZDM m 0 (fun _ => 0) (fun _ => -1) (fun _ => 0) (fun _ => 0))) (np := 4) 2 1 (Nat.le_of_ble_eq_true rfl) ?_; conv => whnf); (refine zK ?_)
 exact fA
theorem ZIo (m : Nat) (h : Nat -> Int) (start : Nat) (slots : Int) (pool : Nat) (budget glob loc : Int) (h2 : 1 <= m /\ m <= 64) (hb : anyZ badH h m = false) (hp : 1 <= pool /\ pool <= 8) :
  ZAE Tryz.prog 16 [(0, some (.ro 1 m (numE h)))] 1 [ZCR 5 0 m start slots pool budget glob loc] fun x h' kk => x = .t [.l (.p 3 0 0 0), .l (.v (.int .i64 0))] /\ kk = 5 /\
   h' = [(1, some (.ob [2] (ZAl (ZEn m pool 0 (fun _ => 0) (fun _ => -1) (fun _ => 0) (fun _ => 0) (fun _ => 0) (fun _ => 0)) 5))), (2, some (ZBy m (1 + 3 * pool * m) (cutF (ZDm (fun _ => 0) 0 pool m) (1 + 3 * pool * m)) (ZDl (fun _ => 0) 0 pool h m) (fun _ => 0) (fun _ => 0) (fun _ => 0) fun _ => 0)), (3, some (.st (ZNB 233 2 1 4 m))), (4, some (.ar 1 m (numE fun _ => 0)))] := by
 have hbn := ZJw h m pool start slots budget glob loc h2 hp hb
 have hsl := ZBd m (fun _ => 0) (fun _ => -1) true false
 refine sE Tryz.func16 ic16_eq [.t 2, .t 3] fun G hP hA => ?_
 unfold evF ic16
 conv => whnf
 refine cA (hbn) ?_
 refine ZAM (ZAS 2 rfl (by decide) rfl rfl rfl) ?_
 refine ZAP hP ZJy rfl rfl ?_
 conv => whnf
 refine cA (hsl) ?_
 refine zP ?_
 (refine ZAD (H := (ZEn m pool 0 (fun _ => 0) (fun _ => -1) (fun _ => 0) (fun _ => 0) (fun _ => 0) (fun _ => 0))) (np := 5) 2 1 (Nat.le_of_ble_eq_true rfl) ?_; conv => whnf); (refine zK ?_)
 exact fA


theorem ZMq {H H' : Heap} {np : Nat} (h1 : ZBB id H H') (h2 : ∀ k e, hget H k = some e -> ∃ e', hget H' k = some e') {ls : List Go.Sx.Loc} {l : Go.Sx.Loc} {F : List Nat} {w : World} (h : ZAl H np ls l F w) : ZAl H' np ls l F w := by
 obtain ⟨ρ, φ, a1, a2, a3, a4⟩ := h
 have get : ∀ k e, hget H' k = some e -> ∃ e', hget H k = some e' /\ ZCe id e' e := fun k e hk => h1.get (ZAa hk)
 refine ⟨ρ, φ, a1, a2, ⟨fun k e hk => ?_, fun k e hk => ?_, fun k k' e e' hk hk' hne ho => ?_, fun k e hk => ?_⟩, fun b => ⟨fun hb => ?_, fun ⟨k, e, hk, hb⟩ => ?_⟩⟩
 ·obtain ⟨e', q1, q2⟩ := get k e hk
  exact q2.at_ (fun _ h => h) (a3.at_ k e' q1)
 ·obtain ⟨e', q1, _⟩ := get k e hk; exact a3.lt k e' q1
 ·obtain ⟨e1, q1, q2⟩ := get k e hk
  obtain ⟨e2, q3, _⟩ := get k' e' hk'
  exact a3.dj k k' e1 e2 q1 q3 hne (q2.own ho)
 ·obtain ⟨e', q1, _⟩ := get k e hk; exact a3.sz k e' q1
 ·obtain ⟨k, e, hk, hbk⟩ := (a4 b).1 hb
  obtain ⟨e', q1⟩ := h2 k e hk
  exact ⟨k, e', q1, hbk⟩
 ·obtain ⟨e', q1, _⟩ := get k e hk
  exact (a4 b).2 ⟨k, e', q1, hb⟩
structure MNew (m : Nat) (h : Nat -> Int) (c : AV) (S : LK) (nw : Nat) (hs : Nat -> Int) (s : PS) : Prop where
 spec : ZAE Tryz.prog 16 [(0, some (.ro 1 m (numE h)))] 1 [c] fun x h' kk => x = .t [.l (.p 3 0 0 0), .l (.v (.int .i64 0))] /\ kk = 5 /\
  h' = [(1, some (.ob [2] (S.R m))), (2, some (ZBC m nw hs s)), (3, some (.st (ZNB S.T 2 1 4 m))), (4, some (.ar 1 m (numE fun _ => 0)))]
 inv : S.inv m
 nw : nw <= 4096
 ss : S.ss = ⟨fun _ => 0, fun _ => -1⟩
def ps0 (ws : Nat -> Int) : PS := ⟨ws, fun _ => 0, fun _ => 0, fun _ => 0, fun _ => 0⟩
theorem ZR5 {m E : Nat} {tail : Int} {st dl sp tr no ot : Nat -> Int} (hm : 1 <= m) {ls : List Go.Sx.Loc} {lc : Go.Sx.Loc} {F : List Nat} {w : World} (hp : ZAl (ZEn m E tail st dl sp tr no ot) 5 ls lc F w) : ZAl (ZBZ m E tail st dl sp tr no ot) 5 ls lc F w := by
 refine ZMq ?_ ?_ hp
 ·exact ⟨rfl, ZAB, ⟨rfl, .inr ⟨fun ls => ZE6 _ _ _, fun ls l F w hh => ZN0 hm hh⟩⟩, ZAB, trivial⟩
 ·intro k e hk
  have h1 := ZAa hk
  simp only [ZEn, List.mem_cons, Prod.mk.injEq, List.not_mem_nil, or_false] at h1
  rcases h1 with ⟨rfl, _⟩ | ⟨rfl, _⟩ | ⟨rfl, _⟩ | ⟨rfl, _⟩ <;> exact ⟨_, rfl⟩
theorem ZKt (f : Nat -> List Value) (m : Nat) (hm : m <= 100000) :
  ZAE Tryz.prog 55 [(0, some (.ro 4 m f))] 1 [.l (.s 0 4 0 m 0)] fun x h n => x = .o (.l (.s 1 4 0 m 0)) /\ n = 2 /\ h = [(1, some (.ar 4 m f))] := by
 refine ZAE.nil_ret (Q := fun x h n => (x = .o (.l (.s 1 4 0 m 0)) /\ n = 2 /\ h = [(1, some (.ar 4 m f))]) \/ (m = 0 /\ x = .o (.l (.v (.slice none 0 0))) /\ n = 1 /\ h = [])) ?_ ?_
 ·refine sE Tryz.func55 ic55_eq [.t 2] fun G hP hA => ?_
  unfold evF ic55
  conv => whnf
  refine ZKU (el := 46) (by rw [hP]; kernel_rfl) rfl fun b hb => ?_
  conv => whnf
  refine bsplit (fun h => ?_) (fun h => ?_)
  ·conv => whnf
   exact ZCl [0] (.o (.l (.v (.slice none 0 0)))) [] 1 rfl (.inr ⟨hb h, rfl, rfl, rfl⟩) rfl rfl rfl trivial rfl
  ·conv => whnf
   refine zP ?_
   refine ZCl [0, 2] (.o (.l (.s 1 4 0 m 0))) [(1, some (.ar 4 m f))] 2 rfl (.inl ⟨rfl, rfl, rfl⟩) rfl rfl ?_ ?_ rfl
   ·show SV.o (.l (.s 2 4 0 (0 + m) 0)) = _
    rw [Nat.zero_add]; rfl
   ·refine ⟨?_, trivial⟩
    show ZCe _ (.ar 4 (0 + m) _) _
    refine ⟨rfl, Nat.zero_add m, fun i hi => ?_⟩
    simp [ZAO]
 ·intro x h n hx
  rcases hx with ⟨rfl, rfl, rfl⟩ | ⟨rfl, rfl, rfl, rfl⟩
  ·exact .inl ⟨rfl, rfl, rfl⟩
  ·exact .inr ⟨4, f, _, fun ρ h => ZQf ρ h, fun ρ D hD h _ => ZQg ρ D hD h, rfl, rfl, rfl⟩
theorem ZHG (n nw ty : Nat) (hs : Nat -> Int) (X : MS) (hi : X.i <= 90000) :
  ZAE Tryz.prog 21 (ZCH n nw ty 3 hs X) 5 [.l (.p 0 0 0 0)] fun x h k => x = .o (.l (.s 5 4 0 X.i 0)) /\ k = 6 /\ h = ZCH n nw ty 3 hs X ++ [(5, some (.ar 4 X.i X.rows))] := by
 have hc := ZKt X.rows X.i (by omega)
 refine sE Tryz.func21 ic21_eq [.t 2] fun G hP hA => ?_
 unfold evF ic21
 conv => whnf
 refine g1 hc ?_
 exact fA
def ZJg (kind : Int) (m : Nat) (h : Nat -> Int) (slots pool budget glob loc : Int) (l : Nat) (most : Int) : Bool := decide (m <= 8) && decide (ZB6 kind m h slots pool budget glob loc = 0) && decide ((l : Int) <= most)
theorem ZGb (kind : Int) (m : Nat) (h : Nat -> Int) (start slots pool budget glob loc : Int) (l : Nat) (ev : Nat -> List Value) (most : Int) :
  ZAE Tryz.prog 23 [(0, some (.ro 1 m (numE h))), (1, some (.ro 3 l ev))] 2 [ZCR kind 0 m start slots pool budget glob loc, .l (.s 1 3 0 l 0), .l (.v (.int .i64 most))] fun x h' k => x = ZAR (ZJg kind m h slots pool budget glob loc l most) /\ k = 2 /\ h' = [] := by
 have hR := ZLk kind m h start slots pool budget glob loc
 refine sE Tryz.func23 ic23_eq [.t 6] fun G hP hA => ?_
 unfold evF ic23 ZJg
 by_cases h8 : m <= 8
 ·have hck := ZNa kind m h start slots pool budget glob loc (by omega)
  by_cases hc : ZB6 kind m h slots pool budget glob loc = 0
  ·rw [hc] at hck
   by_cases hl : (l : Int) <= most
   ·simp only [h8, hc, hl, decide_true, Bool.and_true]
    conv => whnf
    refine g2 hR hck ?_
    refine fB ?_
    simp [hl]
   ·simp only [h8, hc, hl, decide_true, decide_false, Bool.and_false]
    conv => whnf
    refine g2 hR hck ?_
    refine fB ?_
    simp [hl]
  ·simp only [h8, hc, decide_true, decide_false, Bool.and_false, Bool.false_and]
   conv => whnf
   refine g2 hR hck ?_
   exact fA
 ·simp only [h8, decide_false, Bool.false_and]
  conv => whnf
  refine g0 ?_
  exact fA

def ms0 (S : LK) (s : PS) : MS := ⟨S, s, 0, fun _ => [], 0, 0, fun _ => 0⟩
theorem ZR6 {m : Nat} {h : Nat -> Int} {c : AV} {S : LK} {nw : Nat} {hs : Nat -> Int} {s : PS} (N : MNew m h c S nw hs s) : MOk m S.T (ms0 S s) := ⟨rfl, N.inv, by simp [ms0], by simp [ms0]⟩
theorem ZCi {f : Nat -> Int} (hf : ∀ j, f j = 0) (m j : Nat) : ZAr f m 0 j = 0 := by unfold ZAr; split <;> simp [hf]
theorem ZFk {f : Nat -> Int} (hf : ∀ j, f j = 0) (q m : Nat) : ∀ i j, ZK6 q f m (fun _ => 0) i j = 0
 | 0, j => hf j
 | i + 1, j => ZCi (ZFk hf q m i) _ j
theorem ZHg {f : Nat -> Int} (hf : ∀ j, f j = 0) (m : Nat) : ∀ i j, ZDZ f m (fun _ => 0) i j = 0
 | 0, j => hf j
 | i + 1, j => ZCi (ZHg hf m i) _ j
theorem ZFH {f : Nat -> Int} (hf : ∀ j, f j = 0) (m j : Nat) : cutF f m j = 0 := by unfold cutF; split <;> simp [hf]
theorem ZL1 {f : Nat -> Int} {m : Nat} {g : Nat -> Int} {j : Nat} (hj : j < m) : ∀ i, ZDZ f m g i j = f j
 | 0 => rfl
 | i + 1 => by simp only [ZDZ, ZAr]; rw [if_pos (by omega)]; exact ZL1 hj i
theorem ZL2 {f : Nat -> Int} {m : Nat} {g : Nat -> Int} {k : Nat} : ∀ i, k < i -> ZDZ f m g i (m + k) = g k
 | i + 1, hk => by
  simp only [ZDZ, ZAr]
  by_cases h : k < i
  ·rw [if_pos (by omega)]; exact ZL2 i h
  ·obtain rfl : k = i := by omega
   rw [if_neg (by omega)]
theorem ZQ2 {kind : Int} {m : Nat} {h : Nat -> Int} {start : Nat} {slots pool budget glob loc : Int} (hc : ZB6 kind m h slots pool budget glob loc = 0) (hst : start < 4294967296) (hk : kind <= 5) :
  ∃ S nw hs s, MNew m h (ZCR kind 0 m start slots pool budget glob loc) (.s S) nw hs s /\ S.Q m nw s.ws [] := by
 obtain ⟨h1, h2, hb, h3, h5, h7⟩ := ZKW hc
 rcases (show kind = 1 \/ kind = 2 \/ kind = 3 \/ kind = 4 \/ kind = 5 by omega) with rfl | rfl | rfl | rfl | rfl
 ·refine ⟨.fl 0 1 ⟨⟨fun _ => 0, fun _ => -1⟩, fun _ => 0, fun _ => false⟩, _, _, ps0 _, ⟨ZIk m h start slots pool budget glob loc h2 hb, ⟨trivial, trivial⟩, by omega, rfl⟩, 0, 1, start, rfl, rfl, by omega, by omega, by omega, ⟨qst0 m, by simp, ?_, ?_, by simp, by simp⟩⟩
  ·show cutF (ZEX (fun _ => 0) 0 (start : Int)) 2 1 = _
   simp [cutF, ZEX, ZAr]; omega
  ·show cutF (ZEX (fun _ => 0) 0 (start : Int)) 2 0 = _
   simp [cutF, ZEX, ZAr]; omega
 ·obtain ⟨hs1, hs2⟩ := h3 rfl
  obtain ⟨n, rfl, hn⟩ := ZQM hs1
  refine ⟨.sl 0 n ⟨⟨fun _ => 0, fun _ => -1⟩, fun _ => 0, fun _ => 0⟩, _, _, ps0 _, ⟨ZIl m h start n pool budget glob loc h2 hb hst hn (by omega), ⟨⟨hn, by omega, by omega⟩, trivial⟩, by unfold ZBW at hn; omega, rfl⟩, 0, start, rfl, hn, by omega, by omega, ⟨qst0 m, by simp, by simp, ?_, by simp, fun j hj => ?_⟩⟩
  ·show cutF (ZDk (fun _ => 0) 0 start n) (1 + n) 0 = _
   simp only [cutF, ZDk, if_pos (show 0 < 1 + n by omega)]
   rw [ZL1 (by omega)]
   simp [ZAr]; omega
  ·show cutF (ZDk (fun _ => 0) 0 start n) (1 + n) (0 + 1 + j) ≠ 0 ↔ _
   have e1 : 0 + 1 + j < 1 + n := by omega
   simp only [cutF, if_pos e1, ZDk]
   rw [ZL2 n hj]
   unfold ZGi
   by_cases e : j = start % n
   ·simp [e]
   ·simp [e]
 ·refine ⟨.cl 0 ⟨⟨fun _ => 0, fun _ => -1⟩, fun i => i + 1, fun _ => 0, fun _ => 0⟩, _, _, ps0 _, ⟨ZIm m h start slots pool budget glob loc h2 hb, ⟨⟨by omega, by omega⟩, trivial⟩, by omega, rfl⟩, 0, 0, rfl, by omega, ?_⟩
  have hz : ∀ j, ZIV (fun _ => 0) 0 m j = 0 := fun j => ZHg (fun j => ZCi (fun j => ZCi (fun _ => rfl) _ j) _ j) _ _ j
  refine ⟨qst0 m, by simp, by simp, fun t ht => ?_, fun t u _ _ e => ?_, ⟨by omega, by omega, ZFH hz _ _⟩, ZFH hz _ _, by simp, fun t ht hh => ?_⟩
  ·show (0 : Int) <= (t : Int) + 1 /\ (t : Int) + 1 <= m /\ (t : Int) + 1 ≠ 0; omega
  ·have e : (t : Int) + 1 = (u : Int) + 1 := e; omega
  ·simp at hh
 ·refine ⟨.mc 0 ⟨⟨fun _ => 0, fun _ => -1⟩, fun _ => 0, fun _ => 0⟩, _, _, ps0 _, ⟨ZIn m h start slots pool budget glob loc h2 hb, ⟨trivial, trivial⟩, by omega, rfl⟩, 0, rfl, by omega, ?_⟩
  have hz : ∀ j, ZIZ (fun _ => 0) 0 m j = 0 := fun j => ZFk (fun j => ZCi (fun _ => rfl) _ j) _ _ _ j
  exact ⟨qst0 m, by simp, by simp, ZFH hz _ _, by simp, by simp, by simp, by simp, by simp⟩
 ·have h5 := h5 rfl
  obtain ⟨n, rfl⟩ : ∃ n : Nat, pool = n := ⟨pool.toNat, by omega⟩
  have hn8 : n * m <= 8 * 64 := Nat.mul_le_mul (by omega) h2.2
  have hn9 : 3 * n * m = 3 * (n * m) := by rw [Nat.mul_assoc]
  refine ⟨.ab n 0 ⟨⟨fun _ => 0, fun _ => -1⟩, fun _ => 0, fun _ => 0, fun _ => 0, fun _ => 0⟩, 1 + 3 * n * m, ZDl (fun _ => 0) 0 n h m, ps0 (cutF (ZDm (fun _ => 0) 0 n m) (1 + 3 * n * m)), ⟨?_, ⟨⟨by omega, fun t ht a b => by simp at a⟩, by omega, fun t ht => ⟨by simp, fun _ => rfl⟩⟩, ?_, rfl⟩, 0, [], rfl, ?_, ?_, rfl, ?_⟩
  ·refine ZAE.refin (ZIo m h start slots n budget glob loc h2 hb (by omega)) ?_
   rintro x h' k ⟨rfl, rfl, rfl⟩ _
   conv => whnf
   refine fQ ?_ ?_
   ·rfl
   ·exact ⟨⟨rfl, .inr ⟨fun ls => LK.stable _ _ ls, fun ls l F w hh => ZR5 h2.1 hh⟩⟩, ZAB, ZAB, ZAB, trivial⟩
  ·rw [hn9]; omega
  ·rw [Nat.mul_comm]; omega
  ·rw [Nat.mul_comm m n, hn9]; omega
  ·have hz : ∀ j, ZDm (fun _ => 0) 0 n m j = 0 := fun j => ZFk (fun j => ZCi (fun _ => rfl) _ j) _ _ _ j
   refine ⟨by simp, by simp, by simp [nodes], by simp, by simp, by simp, fun c hc => ?_, fun c hc => ?_, fun c d hc => ?_, by simp, by simp, ZFH hz _ _, by simp, by simp, by simp⟩
   ·simp [inP] at hc
   ·simp [actv] at hc
   ·simp [actv] at hc
theorem ZSd {m : Nat} {h : Nat -> Int} {c : AV} {S : K1} {nw : Nat} {hs : Nat -> Int} {s : PS} (N : MNew m h c (.s S) nw hs s) (hq : S.Q m nw s.ws []) : FOk m nw (ms0 (.s S) s) [] := by
 have hs : S.ss = ⟨fun _ => 0, fun _ => -1⟩ := N.ss
 refine ⟨⟨S, rfl, hq, N.inv⟩, fun j hj => absurd hj (Nat.not_lt_zero j), fun j hj => absurd hj (Nat.not_lt_zero j), ⟨fun t ht => ?_, rfl⟩⟩
 show (0 : Int) = autS S.ss.st [] t
 rw [hs]; rfl
theorem ZIR (n nw ty : Nat) (hs : Nat -> Int) (X : MS) (hn : n <= 64) (hT : X.S.T = ty) :
  ZAE Tryz.prog 19 (ZCH n nw ty 3 hs X) 5 [.l (.p 0 0 0 0)] fun x h k => x = sInt .i64 (n : Int) /\ k = 5 /\ h = ZCH n nw ty 3 hs X := by
 have hst := ZSc X.S n hn
 rw [hT] at hst
 refine sE Tryz.func19 ic19_eq [.t 2] fun G hP hA => ?_
 unfold evF ic19
 conv => whnf
 refine g1 hst ?_
 exact fA
def exK : Nat -> Int
 | 0 => 1
 | 1 => 2
 | 2 => 1
 | 3 => 2
 | _ => 4
def exT : Nat -> Int
 | 0 => 0
 | 1 => 0
 | _ => 1
def exU : Nat -> Int
 | 0 => 0
 | 1 => 0
 | 2 => 1
 | 3 => 1
 | _ => 0
theorem ZDy : ZAE Tryz.prog 51 [] 0 [] fun x h n => x = ZAR true /\ n = 0 /\ h = [] := by
 have h1 := ZDx 2 2 (by decide) (by omega) exK exT (fun _ => 0) (fun _ => false) 5 (by omega)
 have h2 := ZDx 2 2 (by decide) (by omega) exK exU (fun _ => 0) (fun _ => false) 5 (by omega)
 rw [show cntN (okN 2 exK exT fun _ => false) 5 = 4 by decide +kernel] at h1
 rw [show cntN (okN 2 exK exU fun _ => false) 5 = 5 by decide +kernel] at h2
 refine sE Tryz.func51 ic51_eq [.t 0] fun G hP hA => ?_
 unfold evF ic51
 conv => whnf
 refine cQ (h1) ?_ ?_
 ·refine ⟨⟨rfl, Nat.le_refl _, fun i hi => ?_⟩, trivial⟩
  rcases (show i = 0 \/ i = 1 \/ i = 2 \/ i = 3 \/ i = 4 by omega) with rfl | rfl | rfl | rfl | rfl <;> rfl
 conv => whnf
 refine zP ?_
 refine cQ (h2) ?_ ?_
 ·refine ⟨⟨rfl, Nat.le_refl _, fun i hi => ?_⟩, trivial⟩
  rcases (show i = 0 \/ i = 1 \/ i = 2 \/ i = 3 \/ i = 4 by omega) with rfl | rfl | rfl | rfl | rfl <;> rfl
 conv => whnf
 refine fB ?_
 rfl
theorem ZPt (kind : Int) (m : Nat) (h : Nat -> Int) (start slots pool budget glob loc : Int) (l : Nat) (ev : Nat -> List Value) (hf : ZJg kind m h slots pool budget glob loc l 400 = false) :
  ZAE Tryz.prog 14 [(0, some (.ro 1 m (numE h))), (1, some (.ro 3 l ev))] 2 [ZCR kind 0 m start slots pool budget glob loc, .l (.s 1 3 0 l 0)] fun x h' k => x = ZAR true /\ k = 2 /\ h' = [] := by
 have hfi := ZGb kind m h start slots pool budget glob loc l ev 400
 rw [hf] at hfi
 have haw := ZDy
 refine sE Tryz.func14 ic14_eq [.t 4] fun G hP hA => ?_
 unfold evF ic14
 conv => whnf
 refine g2 hfi haw ?_
 exact fA
theorem ZOZ (kind : Int) (m : Nat) (h : Nat -> Int) (start slots pool budget glob loc : Int) (l : Nat) (ev : Nat -> List Value) (hf : ZJg kind m h slots pool budget glob loc l 400 = true) (hk : ¬ kind <= 5) :
  ZAE Tryz.prog 14 [(0, some (.ro 1 m (numE h))), (1, some (.ro 3 l ev))] 2 [ZCR kind 0 m start slots pool budget glob loc, .l (.s 1 3 0 l 0)] fun x h' k => x = ZAR true /\ k = 2 /\ h' = [] := by
 have hfi := ZGb kind m h start slots pool budget glob loc l ev 400
 rw [hf] at hfi
 have haw := ZDy
 refine sE Tryz.func14 ic14_eq [.t 4] fun G hP hA => ?_
 unfold evF ic14
 conv => whnf
 refine g2 hfi haw ?_
 exact fA
theorem ZPu (kind : Int) (m : Nat) (h : Nat -> Int) (start slots pool budget glob loc : Int) (l : Nat) (ek et ew : Nat -> Int) (hf : ZJg kind m h slots pool budget glob loc l 400 = true) (hk : kind <= 5) (hm : m <= 8) (hl : l <= 400)
  (S : K1) (nw : Nat) (hs : Nat -> Int) (s : PS) (N : MNew m h (ZCR kind 0 m start slots pool budget glob loc) (.s S) nw hs s) (hQ : S.Q m nw s.ws []) :
  ZAE Tryz.prog 14 [(0, some (.ro 1 m (numE h))), (1, some (.ro 3 l (evR ek et ew)))] 2 [ZCR kind 0 m start slots pool budget glob loc, .l (.s 1 3 0 l 0)] fun x h' k => x = ZAR true /\ k = 2 /\ h' = [] := by
 have hfi := ZGb kind m h start slots pool budget glob loc l (evR ek et ew) 400
 rw [hf] at hfi
 have haw := ZDy
 have hmn := N.spec
 have hm0 := ZR6 N
 have hi0 : (ms0 (.s S) s).i + 3 * l <= 90000 := by simp only [ms0]; omega
 have hn0 : (ms0 (.s S) s).now + l <= 1099511627776 := by simp only [ms0]; omega
 have hra := ZJh m nw (LK.s S).T hs (ms0 (.s S) s) ek et ew l (by omega) N.nw hm0 hi0 hn0 (by omega)
 obtain ⟨⟨d1, d2, d3⟩, d4, d5⟩ := ZKu (nw := nw) ek et ew hm0 hi0 hn0 l (Nat.le_refl l)
 obtain ⟨⟨q, hq⟩, hqi⟩ := (ZSd N hQ).run (show m <= 64 by omega) N.nw ek et ew l
 rcases hA2 : MS.run m nw ek et ew (ms0 (.s S) s) l with ⟨n2, X⟩
 rw [hA2] at hra d1 d2 d3 d4 d5 hq hqi
 simp only at hra d1 d2 d3 d4 d5 hq hqi
 have hXi : X.i <= 800 := by simp only [ms0] at hqi; omega
 have htr := ZHG m nw (LK.s S).T hs X d1.i
 have hln := ZIR m nw (LK.s S).T hs X (by omega) d1.T
 have hck := ZDx (m : Int) m (by unfold clamp; omega) (by omega) (kR X.rows) (tR X.rows) (aR X.rows) noB X.i (by omega)
 rw [hq.fed.cnt X.i (Nat.le_refl _)] at hck
 simp only [decide_true] at hck
 have hrow := hq.fed.row
 refine sE Tryz.func14 ic14_eq [.t 4] fun G hP hA => ?_
 unfold evF ic14
 conv => whnf
 refine g2 hfi hmn ?_
 refine ZLU (v := [_, _]) (ZAW.nilc 5 2 4 (fun _ => []) rfl rfl) ?_
 refine cA (hra) ?_
 refine g2 hln htr ?_
 refine cQ (hck) ?_ ?_
 ·exact ⟨⟨rfl, Nat.le_refl _, fun i hi => hrow i hi⟩, trivial⟩
 conv => whnf
 refine g2 htr haw ?_
 exact fA
theorem ZOK {f : Nat -> List Value} {m : Nat} (hf : ∀ i, i < m -> ZC2 [.i .i64] (f i)) : ∃ h : Nat -> Int, ∀ i, i < m -> numE h i = f i := by
 obtain ⟨g, hg⟩ := ZKS (α := Int) (p := fun i x => ([.int .i64 x] : List Value) = f i) (n := m) fun i hi => by
  obtain ⟨v1, l1, e1, ⟨k, rfl, hk⟩, h1⟩ := ZER (hf i hi)
  obtain rfl := ZKT h1
  exact ⟨k, e1.symm⟩
 exact ⟨g, hg⟩
theorem ZOL {p : OP} (h : p.1 = ZCW Tryz.prog 25 /\ ∃ cols, ZC1 Tryz.prog 6 25 = some cols /\ OCTs Tryz.prog cols p.2) :
  ∃ (kind : Int) (m : Nat) (f : Nat -> List Value) (l : Go.Sx.Loc) (F : List Nat) (start : Nat) (slots pool budget glob loc : Int),
   p = (true, [.v (.int .i64 kind), .c ⟨.ro 1 m f, fun k => .s k 1 0 m 0, l, F⟩, .v (.int .u32 start), .v (.int .i64 slots), .v (.int .i64 pool), .v (.int .i64 budget), .v (.int .i64 glob), .v (.int .i64 loc)]) /\
   start < 4294967296 /\ Lim Tryz.prog 3 m /\ ∀ i, i < m -> ZC2 [.i .i64] (f i) := by
 obtain ⟨xs, rfl, hh⟩ := ZH0 (cols := [.i .i64, .sl 3, .i .u32, .i .i64, .i .i64, .i .i64, .i .i64, .i .i64]) (b := true) h (by kernel_rfl) (by kernel_rfl)
 obtain ⟨x1, y1, rfl, q1, hh⟩ := ZCD hh
 obtain ⟨x2, y2, rfl, q2, hh⟩ := ZCD hh
 obtain ⟨x3, y3, rfl, q3, hh⟩ := ZCD hh
 obtain ⟨x4, y4, rfl, q4, hh⟩ := ZCD hh
 obtain ⟨x5, y5, rfl, q5, hh⟩ := ZCD hh
 obtain ⟨x6, y6, rfl, q6, hh⟩ := ZCD hh
 obtain ⟨x7, y7, rfl, q7, hh⟩ := ZCD hh
 obtain ⟨x8, y8, rfl, q8, hh⟩ := ZCD hh
 obtain rfl := ZMP hh
 obtain ⟨_, rfl, kind, rfl, _⟩ := q1
 obtain ⟨m, f, l, F, rfl, hm, hf⟩ := ZKQ (cols := [.i .i64]) q2 (by kernel_rfl)
 obtain ⟨_, rfl, st, rfl, hs⟩ := q3
 obtain ⟨_, rfl, s4, rfl, _⟩ := q4
 obtain ⟨_, rfl, s5, rfl, _⟩ := q5
 obtain ⟨_, rfl, s6, rfl, _⟩ := q6
 obtain ⟨_, rfl, s7, rfl, _⟩ := q7
 obtain ⟨_, rfl, s8, rfl, _⟩ := q8
 have hs1 : (0 : Int) <= st := hs.1
 have hs2 : st <= (4294967295 : Int) := hs.2
 obtain ⟨start, rfl⟩ : ∃ n : Nat, st = n := ⟨st.toNat, by omega⟩
 exact ⟨kind, m, f, l, F, start, s4, s5, s6, s7, s8, rfl, by omega, hm, hf⟩
theorem ZPf {f : Nat -> List Value} {m : Nat} (hf : ∀ i, i < m -> ZC2 [.i .i64, .i .i64, .i .i64] (f i)) : ∃ ek et ew : Nat -> Int, ∀ i, i < m -> evR ek et ew i = f i := by
 obtain ⟨g, hg⟩ := ZKS (α := Int × Int × Int) (p := fun i x => ([.int .i64 x.1, .int .i64 x.2.1, .int .i64 x.2.2] : List Value) = f i) (n := m) fun i hi => by
  obtain ⟨v1, l1, e1, ⟨k1, rfl, _⟩, h1⟩ := ZER (hf i hi)
  obtain ⟨v2, l2, rfl, ⟨k2, rfl, _⟩, h2⟩ := ZER h1
  obtain ⟨v3, l3, rfl, ⟨k3, rfl, _⟩, h3⟩ := ZER h2
  obtain rfl := ZKT h3
  exact ⟨(k1, k2, k3), e1.symm⟩
 exact ⟨fun i => (g i).1, fun i => (g i).2.1, fun i => (g i).2.2, hg⟩
theorem ZPg {kind : Int} {m : Nat} {h : Nat -> Int} {slots pool budget glob loc : Int} {l : Nat} {most : Int} (hf : ZJg kind m h slots pool budget glob loc l most = true) : m <= 8 /\ ZB6 kind m h slots pool budget glob loc = 0 /\ (l : Int) <= most := by
 simpa [ZJg, and_assoc] using hf
theorem ZMt (kind : Int) (m : Nat) (h : Nat -> Int) (start : Nat) (slots pool budget glob loc : Int) (l : Nat) (ek et ew : Nat -> Int) (hs : start < 4294967296) :
  ZAE Tryz.prog 14 [(0, some (.ro 1 m (numE h))), (1, some (.ro 3 l (evR ek et ew)))] 2 [ZCR kind 0 m start slots pool budget glob loc, .l (.s 1 3 0 l 0)] fun x h' k => x = ZAR true := by
 refine ZAE.mono (Q := fun x h' k => x = ZAR true /\ k = 2 /\ h' = []) ?_ fun x h k hx => hx.1
 cases hf : ZJg kind m h slots pool budget glob loc l 400 with
 | false => exact ZPt kind m h start slots pool budget glob loc l _ hf
 | true =>
  by_cases hk : kind <= 5
  ·obtain ⟨h1, h2, h3⟩ := ZPg hf
   obtain ⟨S, nw, hs', s, N, hQ⟩ := ZQ2 h2 hs hk
   exact ZPu kind m h start slots pool budget glob loc l ek et ew hf hk h1 (by omega) S nw hs' s N hQ
  ·exact ZOZ kind m h start slots pool budget glob loc l _ hf hk
theorem fifoMachine_law (ps : List OP) (h : ZEz Tryz.prog Tryz.f14.params.toList ps) : ZAE Tryz.prog 14 (ZLe 0 (ZG8 ps)) (ZG8 ps).length (avsP 0 ps) fun x _ _ => x = ZAR true := by
 rw [Tryz.params14] at h
 obtain ⟨p1, ps1, rfl, h1, h⟩ := ZHz h
 obtain ⟨p2, ps2, rfl, h2, h⟩ := ZHz h
 obtain rfl := ZPM h
 obtain ⟨kind, m, f, l, F, start, slots, pool, budget, glob, loc, rfl, hs, hm, hf⟩ := ZOL h1
 obtain ⟨N, g, l2, F2, rfl, hN, hg⟩ := ZLg (e := 41) (cols := [.i .i64, .i .i64, .i .i64]) h2 (by kernel_rfl) (by kernel_rfl) (by kernel_rfl)
 obtain ⟨H, hH⟩ := ZOK hf
 obtain ⟨ek, et, ew, hE⟩ := ZPf hg
 exact (ZMt kind m H start slots pool budget glob loc N ek et ew hs).pre (And.intro (And.intro rfl (And.intro (Nat.le_refl _) fun i hi => (hH i hi).symm)) (And.intro (And.intro rfl (And.intro (Nat.le_refl _) fun i hi => (hE i hi).symm)) trivial))
end Go.Proofs.YtlkfolopbehikaaGreat
