/- Locks: locks of locks, made where all is well. · Locks: locks of locks, with their port; laid and built. · Locks in general: locks of locks: what they are (printed by gl.py). · Locks in general: locks of locks: a step of the local lock (printed by gl.py). · Locks in general: locks of locks: what is asked of the pass (printed by gl.py). · Locks in general: locks of locks: a step of the lock of all nodes (printed by gl.py). · Locks in general: locks of locks: how many were granted in a row (printed by gl.py). · Locks in general: locks of locks: is anybody behind (printed by gl.py). · Locks in general: locks of locks: the local lock is left (printed by gl.py). · Locks in general: locks of locks: the end of a node's time (printed by gl.py). · Locks in general: locks of locks: the lock of all nodes is left; what a call begins with (printed by gl.py). · Locks in general: locks of locks: any step (printed by gl.py). · Locks in general: locks of locks: any step (printed by gl.py). · Locks in general: what stays as it should be, whatever is called and stepped. · Locks in general: locks of any kind, told alike; their methods through an interface (printed by gq.py). · BuildNews: machines: what is told of one that is new. · Machines: an entry. · Machines in general: any event (printed by gr.py). · Machines in general: a step that enters Enq and Arrive (printed by gr.py). · Machines in general: a step that enters Enq (printed by gr.py). · Machines in general: a step that enters Arrive (printed by gr.py). · Machines in general: a step that enters neither (printed by gr.py). -/
import Derived.Test.YtlkfolopbehikaaGreatMb
set_option linter.unusedSimpArgs false
set_option linter.unusedVariables false
set_option maxRecDepth 8000
set_option maxHeartbeats 8000000
namespace Go.Proofs.YtlkfolopbehikaaGreat
open Go Go.Sx
theorem ZCE {v : Int} (hv : badH v = false) : ∀ n, anyZ badH (fun _ => v) n = false
 | 0 => rfl
 | n + 1 => by rw [anyZ, ZCE hv n, hv]; rfl
theorem ZB3 {h : Nat -> Int} {i c : Nat} {x : Nat} (hc : h i = (c : Int)) (hx : x = cnt h i c) (t : Nat) : mrgL (t = i) (ZAL (ZCe h i t) 0 [.int .i64 (c : Int), .int .i64 (x : Int), .nilFunc, .int .u32 0]) (ZCe h i t) = ZCe h (i + 1) t := by
 rw [ZFT _ _ _ (by rw [ZBD])]
 by_cases e : t = i
 ·subst e
  rw [if_pos rfl]
  simp only [ZCe, ZLR, ZAL, setL, Nat.lt_succ_self, if_true, hc, hx, Int.toNat_natCast]
 ·rw [if_neg e]
  simp only [ZCe, ZLR, show (t < i + 1) ↔ (t < i) from by omega]
theorem ZDC {h : Nat -> Int} {i c : Nat} {cn : Nat -> Nat} (hc : h i = (c : Int)) (hn : ∀ j, cn j = cnt h i j) (j : Nat) : (if j = c then cn j + 1 else cn j) = cnt h (i + 1) j := by
 simp only [cnt, hn, hc]
 by_cases e : j = c
 ·subst e; simp
 ·rw [if_neg e, if_neg (by omega), Nat.add_zero]
theorem ZNh (th : Int) (M : Nat) (hs ws h : Nat -> Int) (m g l : Nat) (bu : Int) (hM : M <= 5000) (hm : 1 <= m /\ m <= 64) (hb : anyZ badH h m = false) (hg : g = 1 \/ g = 4) (hl : isIn l) (hbu : 1 <= bu /\ bu <= 1000) :
  ZAH Tryz.prog 111 [(0, some (ZBI th M hs ws)), (1, some (.ro 1 m (numE h)))] 2 [.l (.p 0 0 0 0), .l (.s 1 1 0 m 0), .l (.v (.int .i64 g)), .l (.v (.int .i64 l)), .l (.v (.int .i64 bu))] fun x h' k =>
   x = .t [.l (.p 2 0 0 0), .l (.v (.int .i64 0))] /\ k = 3 /\ h' = [(0, some (ZBI th (l3 l (cnt h m) (p0F M g hs ws) 8).1 (l3 l (cnt h m) (p0F M g hs ws) 8).2.1 (l3 l (cnt h m) (p0F M g hs ws) 8).2.2)),
    (2, some (ZOs m M g l bu (cnt h m) (p0F M g hs ws) (ZCe h m)))] := by
 have hse := ZCO m false false (by omega)
 have hcf := ZBP 141 badH ZKg h m (by omega)
 rw [hb] at hcf
 have hc2 := ZDf (g : Int) gl2 2 (by omega)
 rw [show anyZ (fun x => decide ((g : Int) = x)) gl2 2 = true from by rcases hg with rfl | rfl <;> simp [anyZ, gl2]] at hc2
 have hc3 := ZDf (l : Int) loc3 3 (by omega)
 rw [show anyZ (fun x => decide ((l : Int) = x)) loc3 3 = true from by rcases hl with rfl | rfl | rfl <;> simp [anyZ, loc3]] at hc3
 have hpl := ZJV th M hs ws
 have hgi : isIn g := by unfold isIn; omega
 refine sE Tryz.func111 ic111_eq [.t 10, .t 11] fun G hP hA => ?_
 unfold evF ic111
 conv => whnf
 (refine ZAA hP (hse) ?_; (conv => whnf); refine zA ?_; conv => whnf)
 (refine ZAA hP (hcf) ?_; (conv => whnf); refine zA ?_; conv => whnf)
 (refine ZAA hP (hc2) ?_; conv => whnf); refine ⟨⟨rfl, rfl, rfl, ?_, rfl, rfl⟩, ?_⟩
 ·exact ⟨⟨rfl, Nat.le_refl _, fun i hi => by rcases (show i = 0 \/ i = 1 by omega) with rfl | rfl <;> rfl⟩, trivial⟩
 conv => whnf
 (refine ZAA hP (hc3) ?_; conv => whnf); refine ⟨⟨rfl, rfl, rfl, ?_, rfl, rfl⟩, ?_⟩
 ·exact ⟨⟨rfl, Nat.le_refl _, fun i hi => by rcases (show i = 0 \/ i = 1 \/ i = 2 by omega) with rfl | rfl | rfl <;> rfl⟩, trivial⟩
 conv => whnf
 refine dsplit (fun h1 => absurd h1 (by omega)) (fun _ => ?_)
 conv => whnf
 refine dsplit (fun h1 => absurd h1 (by omega)) (fun _ => ?_)
 conv => whnf
 (refine ZAl (by rw [hP]; exact follows) 60 (by kernel_rfl) ?_; conv => whnf)
 repeat' (first | (refine And.intro (by first | omega | (simp [ZAI]; omega)) ?_; conv => whnf) | (refine ZQS (by omega) (by omega) ?_; conv => whnf) | (refine And.intro ?_ ?_ <;> (conv => whnf)))
 all_goals (refine ZAB hP (hpl) ?_; (conv => whnf); refine zA ?_; conv => whnf)
 repeat' (first | (refine And.intro (by first | omega | (simp [ZAI]; omega)) ?_; conv => whnf) | (refine ZQS (by omega) (by omega) ?_; conv => whnf) | (refine And.intro ?_ ?_ <;> (conv => whnf)))
 all_goals
  refine ZAn (α := Nat) (ds := []) (N := 9) (fun i => [(62, sInt .i64 (i : Int)), (15, .o (.l (.s 8 1 0 i 0)))]) []
   (fun i => [(0, some (ZBI th (M + i) (ZBQ hs M (fun i => (i : Int)) i) (ZBQ ws M (fun _ => 0) i))), (8, some (.ar 1 i (numE fun j => (j : Int))))])
   (fun i => i <= 8) (fun i => 8 - i) 0 (Nat.zero_le _) ?_ fun i hi => ?_
  ·conv => whnf
   refine Imp.trans (ZOM 15 1 (numE fun j => (j : Int)) rfl) ?_
   (conv => whnf); (refine ZAU hA ?_; conv => whnf); exact zI
  ·have hwi := ZBG th (M + i) (ZBQ hs M (fun i => (i : Int)) i) (ZBQ ws M (fun _ => 0) i) (i : Int) 0 (by omega)
   conv => whnf
   refine dsplit (fun h1 => ?_) (fun h1 => ?_)
   ·replace h1 : (i : Int) < 8 := h1
    conv => whnf
    (refine ZAA hP (hwi) ?_; (conv => whnf); refine zA ?_; conv => whnf)
    (repeat' ((first | refine aI ?_ | refine a64 ?_ | refine a32 ?_ | refine a8 ?_); conv => whnf))
    refine ⟨i + 1, by omega, by omega, ?_⟩
    (conv => whnf); (refine ZAU hA ?_; conv => whnf); refine ⟨rfl, rfl, rfl, ZAe, ?_, rfl⟩
    refine And.intro ?_ (And.intro (And.intro rfl (And.intro rfl fun j hj => ZAx (f := numE fun j => (j : Int)) (i := i) rfl j hj)) ?_)
    all_goals exact ZAD
   replace h1 : ¬ (i : Int) < 8 := h1
   obtain rfl : i = 8 := by omega
   have hin0 := ZCk g hgi th (M + 8) (ZBQ hs M (fun i => (i : Int)) 8) (ZBQ ws M (fun _ => 0) 8) (fun i => (i : Int)) 8 (by omega) (by omega) (by decide)
   generalize hp0 : (p0F M g hs ws) = p0
   have e1 : p0.1 = M + 8 + inN g 8 := by rw [<- hp0]; rfl
   have e2 : inHs g (ZBQ hs M (fun i => (i : Int)) 8) (M + 8) (fun i => (i : Int)) 8 = p0.2.1 := by rw [<- hp0]; rfl
   have e3 : inWs g (ZBQ ws M (fun _ => 0) 8) (M + 8) 8 = p0.2.2 := by rw [<- hp0]; rfl
   rw [<- e1, e2, e3] at hin0
   have e0 : p0.1 <= M + 26 := by rw [e1]; have := ZLQ g 8; omega
   generalize hA1 : ZBQ hs M (fun i => (i : Int)) 8 = hs8 at *
   generalize hA2 : ZBQ ws M (fun _ => 0) 8 = ws8 at *
   conv => whnf
   (refine ZAA hP (hin0) ?_; (conv => whnf); refine zA ?_; conv => whnf)
   refine ZAn (α := Nat × (Nat -> Nat)) (ds := []) (N := 18) (fun x => [(82, sInt .i64 (x.1 : Int))]) []
    (fun x => [(5, some (.ar 4 m (ZCe h x.1))), (7, some (.st [.s 10 1 0 (x.2 0) 0, .s 11 1 0 (x.2 1) 0, .s 12 1 0 (x.2 2) 0, .s 13 1 0 (x.2 3) 0, .s 14 1 0 (x.2 4) 0, .s 15 1 0 (x.2 5) 0, .s 16 1 0 (x.2 6) 0, .s 17 1 0 (x.2 7) 0])), (10, some (.ar 1 (x.2 0) (fun _ => [.int .i64 0]))), (11, some (.ar 1 (x.2 1) (fun _ => [.int .i64 1]))), (12, some (.ar 1 (x.2 2) (fun _ => [.int .i64 2]))), (13, some (.ar 1 (x.2 3) (fun _ => [.int .i64 3]))), (14, some (.ar 1 (x.2 4) (fun _ => [.int .i64 4]))), (15, some (.ar 1 (x.2 5) (fun _ => [.int .i64 5]))), (16, some (.ar 1 (x.2 6) (fun _ => [.int .i64 6]))), (17, some (.ar 1 (x.2 7) (fun _ => [.int .i64 7])))])
    (fun x => x.1 <= m /\ ∀ j, x.2 j = cnt h x.1 j) (fun x => m - x.1) (0, fun _ => 0) ⟨Nat.zero_le _, fun _ => rfl⟩ ?_ fun x hx => ?_
   ·conv => whnf
    refine Imp.trans (ZAj ((ZAV.nilc 7 0 1 (fun _ => [.int .i64 0]) rfl rfl).trans ((ZAV.nilc 7 1 1 (fun _ => [.int .i64 1]) rfl rfl).trans ((ZAV.nilc 7 2 1 (fun _ => [.int .i64 2]) rfl rfl).trans ((ZAV.nilc 7 3 1 (fun _ => [.int .i64 3]) rfl rfl).trans ((ZAV.nilc 7 4 1 (fun _ => [.int .i64 4]) rfl rfl).trans ((ZAV.nilc 7 5 1 (fun _ => [.int .i64 5]) rfl rfl).trans ((ZAV.nilc 7 6 1 (fun _ => [.int .i64 6]) rfl rfl).trans (ZAV.nilc 7 7 1 (fun _ => [.int .i64 7]) rfl rfl))))))))) ?_
    (conv => whnf); (refine ZAU hA ?_; conv => whnf); refine ⟨rfl, rfl, rfl, ZAe, ?_, rfl⟩
    all_goals exact ZAD
   ·obtain ⟨i, cn⟩ := x
    obtain ⟨hi, hcn⟩ := hx
    replace hi : i <= m := hi
    replace hcn : ∀ j, cn j = cnt h i j := hcn
    conv => whnf
    refine dsplit (fun h1 => ?_) (fun h1 => ?_)
    ·replace h1 : (i : Int) < (m : Int) := h1
     have hbi : badH (h i) = false := ZAy.1 hb i (by omega)
     have hr : 0 <= h i /\ h i < 8 := by unfold badH at hbi; simp at hbi; omega
     have hni : nadd 0 ((i : Nat) : Int).toNat = i := by simp [ZAI]
     have hsz : ∀ c, (cn c + 1) * 8 <= 140737488355328 := fun c => by have := ZHO h i c; rw [hcn c]; omega
     rcases (show h i = 0 \/ h i = 1 \/ h i = 2 \/ h i = 3 \/ h i = 4 \/ h i = 5 \/ h i = 6 \/ h i = 7 by omega) with hc | hc | hc | hc | hc | hc | hc | hc
     ·conv => whnf
      (repeat' ((first | refine aI ?_ | refine a64 ?_ | refine a32 ?_ | refine a8 ?_); conv => whnf))
      rw [hni, hc]
      conv => whnf
      (refine ZAl (by rw [hP]; exact follows) 60 (by kernel_rfl) ?_; conv => whnf)
      repeat' (first | (refine And.intro (by first | omega | decide | exact ⟨rfl, Nat.le_of_ble_eq_true rfl, hsz _⟩ | (simp [ZAI]; omega)) ?_; conv => whnf) | (refine And.intro ?_ ?_ <;> (conv => whnf)))
      all_goals
       (repeat' (first | (refine And.intro (by first | omega | exact ⟨rfl, Nat.le_of_ble_eq_true rfl, hsz _⟩) ?_; conv => whnf) | (refine ZGp (by omega) (by omega) ?_; conv => whnf)))
       rw [hni]
       refine ⟨(i + 1, fun j => if j = 0 then cn j + 1 else cn j), ⟨show i + 1 <= m by omega, fun j => ZDC (c := 0) hc hcn j⟩, show m - (i + 1) < m - i by omega, ?_⟩
       (conv => whnf); (refine ZAU hA ?_; conv => whnf); refine ⟨rfl, rfl, rfl, ZAe, ?_, rfl⟩
       all_goals exact (by repeat' (first | exact trivial | exact rfl | (intro _ _; exact rfl) | (intro j hj; exact ZAx (f := fun _ => [.int .i64 _]) rfl j hj) | exact Nat.le_refl _ | exact Or.inl (Or.inl (And.intro (fun h => h) rfl)) | exact Or.inl rfl | (intro t ht; exact ZB3 hc (hcn _) t) | apply And.intro))
     ·conv => whnf
      (repeat' ((first | refine aI ?_ | refine a64 ?_ | refine a32 ?_ | refine a8 ?_); conv => whnf))
      rw [hni, hc]
      conv => whnf
      (refine ZAl (by rw [hP]; exact follows) 60 (by kernel_rfl) ?_; conv => whnf)
      repeat' (first | (refine And.intro (by first | omega | decide | exact ⟨rfl, Nat.le_of_ble_eq_true rfl, hsz _⟩ | (simp [ZAI]; omega)) ?_; conv => whnf) | (refine And.intro ?_ ?_ <;> (conv => whnf)))
      all_goals
       (repeat' (first | (refine And.intro (by first | omega | exact ⟨rfl, Nat.le_of_ble_eq_true rfl, hsz _⟩) ?_; conv => whnf) | (refine ZGp (by omega) (by omega) ?_; conv => whnf)))
       rw [hni]
       refine ⟨(i + 1, fun j => if j = 1 then cn j + 1 else cn j), ⟨show i + 1 <= m by omega, fun j => ZDC (c := 1) hc hcn j⟩, show m - (i + 1) < m - i by omega, ?_⟩
       (conv => whnf); (refine ZAU hA ?_; conv => whnf); refine ⟨rfl, rfl, rfl, ZAe, ?_, rfl⟩
       all_goals exact (by repeat' (first | exact trivial | exact rfl | (intro _ _; exact rfl) | (intro j hj; exact ZAx (f := fun _ => [.int .i64 _]) rfl j hj) | exact Nat.le_refl _ | exact Or.inl (Or.inl (And.intro (fun h => h) rfl)) | exact Or.inl rfl | (intro t ht; exact ZB3 hc (hcn _) t) | apply And.intro))
     ·conv => whnf
      (repeat' ((first | refine aI ?_ | refine a64 ?_ | refine a32 ?_ | refine a8 ?_); conv => whnf))
      rw [hni, hc]
      conv => whnf
      (refine ZAl (by rw [hP]; exact follows) 60 (by kernel_rfl) ?_; conv => whnf)
      repeat' (first | (refine And.intro (by first | omega | decide | exact ⟨rfl, Nat.le_of_ble_eq_true rfl, hsz _⟩ | (simp [ZAI]; omega)) ?_; conv => whnf) | (refine And.intro ?_ ?_ <;> (conv => whnf)))
      all_goals
       (repeat' (first | (refine And.intro (by first | omega | exact ⟨rfl, Nat.le_of_ble_eq_true rfl, hsz _⟩) ?_; conv => whnf) | (refine ZGp (by omega) (by omega) ?_; conv => whnf)))
       rw [hni]
       refine ⟨(i + 1, fun j => if j = 2 then cn j + 1 else cn j), ⟨show i + 1 <= m by omega, fun j => ZDC (c := 2) hc hcn j⟩, show m - (i + 1) < m - i by omega, ?_⟩
       (conv => whnf); (refine ZAU hA ?_; conv => whnf); refine ⟨rfl, rfl, rfl, ZAe, ?_, rfl⟩
       all_goals exact (by repeat' (first | exact trivial | exact rfl | (intro _ _; exact rfl) | (intro j hj; exact ZAx (f := fun _ => [.int .i64 _]) rfl j hj) | exact Nat.le_refl _ | exact Or.inl (Or.inl (And.intro (fun h => h) rfl)) | exact Or.inl rfl | (intro t ht; exact ZB3 hc (hcn _) t) | apply And.intro))
     ·conv => whnf
      (repeat' ((first | refine aI ?_ | refine a64 ?_ | refine a32 ?_ | refine a8 ?_); conv => whnf))
      rw [hni, hc]
      conv => whnf
      (refine ZAl (by rw [hP]; exact follows) 60 (by kernel_rfl) ?_; conv => whnf)
      repeat' (first | (refine And.intro (by first | omega | decide | exact ⟨rfl, Nat.le_of_ble_eq_true rfl, hsz _⟩ | (simp [ZAI]; omega)) ?_; conv => whnf) | (refine And.intro ?_ ?_ <;> (conv => whnf)))
      all_goals
       (repeat' (first | (refine And.intro (by first | omega | exact ⟨rfl, Nat.le_of_ble_eq_true rfl, hsz _⟩) ?_; conv => whnf) | (refine ZGp (by omega) (by omega) ?_; conv => whnf)))
       rw [hni]
       refine ⟨(i + 1, fun j => if j = 3 then cn j + 1 else cn j), ⟨show i + 1 <= m by omega, fun j => ZDC (c := 3) hc hcn j⟩, show m - (i + 1) < m - i by omega, ?_⟩
       (conv => whnf); (refine ZAU hA ?_; conv => whnf); refine ⟨rfl, rfl, rfl, ZAe, ?_, rfl⟩
       all_goals exact (by repeat' (first | exact trivial | exact rfl | (intro _ _; exact rfl) | (intro j hj; exact ZAx (f := fun _ => [.int .i64 _]) rfl j hj) | exact Nat.le_refl _ | exact Or.inl (Or.inl (And.intro (fun h => h) rfl)) | exact Or.inl rfl | (intro t ht; exact ZB3 hc (hcn _) t) | apply And.intro))
     ·conv => whnf
      (repeat' ((first | refine aI ?_ | refine a64 ?_ | refine a32 ?_ | refine a8 ?_); conv => whnf))
      rw [hni, hc]
      conv => whnf
      (refine ZAl (by rw [hP]; exact follows) 60 (by kernel_rfl) ?_; conv => whnf)
      repeat' (first | (refine And.intro (by first | omega | decide | exact ⟨rfl, Nat.le_of_ble_eq_true rfl, hsz _⟩ | (simp [ZAI]; omega)) ?_; conv => whnf) | (refine And.intro ?_ ?_ <;> (conv => whnf)))
      all_goals
       (repeat' (first | (refine And.intro (by first | omega | exact ⟨rfl, Nat.le_of_ble_eq_true rfl, hsz _⟩) ?_; conv => whnf) | (refine ZGp (by omega) (by omega) ?_; conv => whnf)))
       rw [hni]
       refine ⟨(i + 1, fun j => if j = 4 then cn j + 1 else cn j), ⟨show i + 1 <= m by omega, fun j => ZDC (c := 4) hc hcn j⟩, show m - (i + 1) < m - i by omega, ?_⟩
       (conv => whnf); (refine ZAU hA ?_; conv => whnf); refine ⟨rfl, rfl, rfl, ZAe, ?_, rfl⟩
       all_goals exact (by repeat' (first | exact trivial | exact rfl | (intro _ _; exact rfl) | (intro j hj; exact ZAx (f := fun _ => [.int .i64 _]) rfl j hj) | exact Nat.le_refl _ | exact Or.inl (Or.inl (And.intro (fun h => h) rfl)) | exact Or.inl rfl | (intro t ht; exact ZB3 hc (hcn _) t) | apply And.intro))
     ·conv => whnf
      (repeat' ((first | refine aI ?_ | refine a64 ?_ | refine a32 ?_ | refine a8 ?_); conv => whnf))
      rw [hni, hc]
      conv => whnf
      (refine ZAl (by rw [hP]; exact follows) 60 (by kernel_rfl) ?_; conv => whnf)
      repeat' (first | (refine And.intro (by first | omega | decide | exact ⟨rfl, Nat.le_of_ble_eq_true rfl, hsz _⟩ | (simp [ZAI]; omega)) ?_; conv => whnf) | (refine And.intro ?_ ?_ <;> (conv => whnf)))
      all_goals
       (repeat' (first | (refine And.intro (by first | omega | exact ⟨rfl, Nat.le_of_ble_eq_true rfl, hsz _⟩) ?_; conv => whnf) | (refine ZGp (by omega) (by omega) ?_; conv => whnf)))
       rw [hni]
       refine ⟨(i + 1, fun j => if j = 5 then cn j + 1 else cn j), ⟨show i + 1 <= m by omega, fun j => ZDC (c := 5) hc hcn j⟩, show m - (i + 1) < m - i by omega, ?_⟩
       (conv => whnf); (refine ZAU hA ?_; conv => whnf); refine ⟨rfl, rfl, rfl, ZAe, ?_, rfl⟩
       all_goals exact (by repeat' (first | exact trivial | exact rfl | (intro _ _; exact rfl) | (intro j hj; exact ZAx (f := fun _ => [.int .i64 _]) rfl j hj) | exact Nat.le_refl _ | exact Or.inl (Or.inl (And.intro (fun h => h) rfl)) | exact Or.inl rfl | (intro t ht; exact ZB3 hc (hcn _) t) | apply And.intro))
     ·conv => whnf
      (repeat' ((first | refine aI ?_ | refine a64 ?_ | refine a32 ?_ | refine a8 ?_); conv => whnf))
      rw [hni, hc]
      conv => whnf
      (refine ZAl (by rw [hP]; exact follows) 60 (by kernel_rfl) ?_; conv => whnf)
      repeat' (first | (refine And.intro (by first | omega | decide | exact ⟨rfl, Nat.le_of_ble_eq_true rfl, hsz _⟩ | (simp [ZAI]; omega)) ?_; conv => whnf) | (refine And.intro ?_ ?_ <;> (conv => whnf)))
      all_goals
       (repeat' (first | (refine And.intro (by first | omega | exact ⟨rfl, Nat.le_of_ble_eq_true rfl, hsz _⟩) ?_; conv => whnf) | (refine ZGp (by omega) (by omega) ?_; conv => whnf)))
       rw [hni]
       refine ⟨(i + 1, fun j => if j = 6 then cn j + 1 else cn j), ⟨show i + 1 <= m by omega, fun j => ZDC (c := 6) hc hcn j⟩, show m - (i + 1) < m - i by omega, ?_⟩
       (conv => whnf); (refine ZAU hA ?_; conv => whnf); refine ⟨rfl, rfl, rfl, ZAe, ?_, rfl⟩
       all_goals exact (by repeat' (first | exact trivial | exact rfl | (intro _ _; exact rfl) | (intro j hj; exact ZAx (f := fun _ => [.int .i64 _]) rfl j hj) | exact Nat.le_refl _ | exact Or.inl (Or.inl (And.intro (fun h => h) rfl)) | exact Or.inl rfl | (intro t ht; exact ZB3 hc (hcn _) t) | apply And.intro))
     ·conv => whnf
      (repeat' ((first | refine aI ?_ | refine a64 ?_ | refine a32 ?_ | refine a8 ?_); conv => whnf))
      rw [hni, hc]
      conv => whnf
      (refine ZAl (by rw [hP]; exact follows) 60 (by kernel_rfl) ?_; conv => whnf)
      repeat' (first | (refine And.intro (by first | omega | decide | exact ⟨rfl, Nat.le_of_ble_eq_true rfl, hsz _⟩ | (simp [ZAI]; omega)) ?_; conv => whnf) | (refine And.intro ?_ ?_ <;> (conv => whnf)))
      all_goals
       (repeat' (first | (refine And.intro (by first | omega | exact ⟨rfl, Nat.le_of_ble_eq_true rfl, hsz _⟩) ?_; conv => whnf) | (refine ZGp (by omega) (by omega) ?_; conv => whnf)))
       rw [hni]
       refine ⟨(i + 1, fun j => if j = 7 then cn j + 1 else cn j), ⟨show i + 1 <= m by omega, fun j => ZDC (c := 7) hc hcn j⟩, show m - (i + 1) < m - i by omega, ?_⟩
       (conv => whnf); (refine ZAU hA ?_; conv => whnf); refine ⟨rfl, rfl, rfl, ZAe, ?_, rfl⟩
       all_goals exact (by repeat' (first | exact trivial | exact rfl | (intro _ _; exact rfl) | (intro j hj; exact ZAx (f := fun _ => [.int .i64 _]) rfl j hj) | exact Nat.le_refl _ | exact Or.inl (Or.inl (And.intro (fun h => h) rfl)) | exact Or.inl rfl | (intro t ht; exact ZB3 hc (hcn _) t) | apply And.intro))
    ·replace h1 : ¬ (i : Int) < (m : Int) := h1
     obtain rfl : m = i := by omega
     have hcn64 : ∀ j, cn j <= 64 := fun j => by rw [hcn j]; exact Nat.le_trans (ZHO h m j) hm.2
     obtain rfl : cn = cnt h m := funext hcn
     generalize hcm : cnt h m = cn at *
     conv => whnf
     refine ZAn (α := Nat) (ds := []) (N := 26) (fun c => [(109, sInt .i64 (c : Int))]) []
      (fun c => [(0, some (ZBI th (l3 l cn p0 c).1 (l3 l cn p0 c).2.1 (l3 l cn p0 c).2.2)), (6, some (.st [.p 2 0 0 0, .v (.pointer none), .v (.int .i64 M), .v (.int .u32 bu), .i (inT g) 9, .io (lb cn c 0) (inT l) 18, .io (lb cn c 1) (inT l) 19, .io (lb cn c 2) (inT l) 20, .io (lb cn c 3) (inT l) 21, .io (lb cn c 4) (inT l) 22, .io (lb cn c 5) (inT l) 23, .io (lb cn c 6) (inT l) 24, .io (lb cn c 7) (inT l) 25, .s 5 4 0 m 0])), (18, some (.ob [] (OptR (lb cn c 0) (inR0 l (cn 0) (l3 l cn p0 0).1)))), (19, some (.ob [] (OptR (lb cn c 1) (inR0 l (cn 1) (l3 l cn p0 1).1)))), (20, some (.ob [] (OptR (lb cn c 2) (inR0 l (cn 2) (l3 l cn p0 2).1)))), (21, some (.ob [] (OptR (lb cn c 3) (inR0 l (cn 3) (l3 l cn p0 3).1)))), (22, some (.ob [] (OptR (lb cn c 4) (inR0 l (cn 4) (l3 l cn p0 4).1)))), (23, some (.ob [] (OptR (lb cn c 5) (inR0 l (cn 5) (l3 l cn p0 5).1)))), (24, some (.ob [] (OptR (lb cn c 6) (inR0 l (cn 6) (l3 l cn p0 6).1)))), (25, some (.ob [] (OptR (lb cn c 7) (inR0 l (cn 7) (l3 l cn p0 7).1))))])
      (fun c => c <= 8) (fun c => 8 - c) 0 (Nat.zero_le _) ?_ fun c hc8 => ?_
     ·conv => whnf
      refine Imp.trans (ZAj ((ZAV.nothing (OptR false (inR0 l (cn 0) (l3 l cn p0 0).1)) (ZAM (ZAX _ _ _) _) (ZCZ _)).trans ((ZAV.nothing (OptR false (inR0 l (cn 1) (l3 l cn p0 1).1)) (ZAM (ZAX _ _ _) _) (ZCZ _)).trans ((ZAV.nothing (OptR false (inR0 l (cn 2) (l3 l cn p0 2).1)) (ZAM (ZAX _ _ _) _) (ZCZ _)).trans ((ZAV.nothing (OptR false (inR0 l (cn 3) (l3 l cn p0 3).1)) (ZAM (ZAX _ _ _) _) (ZCZ _)).trans ((ZAV.nothing (OptR false (inR0 l (cn 4) (l3 l cn p0 4).1)) (ZAM (ZAX _ _ _) _) (ZCZ _)).trans ((ZAV.nothing (OptR false (inR0 l (cn 5) (l3 l cn p0 5).1)) (ZAM (ZAX _ _ _) _) (ZCZ _)).trans ((ZAV.nothing (OptR false (inR0 l (cn 6) (l3 l cn p0 6).1)) (ZAM (ZAX _ _ _) _) (ZCZ _)).trans ((ZAV.nothing (OptR false (inR0 l (cn 7) (l3 l cn p0 7).1)) (ZAM (ZAX _ _ _) _) (ZCZ _)).trans ((ZAV.cell 6 5 (.io false (inT l) 18) (x := .v .nilIface) rfl rfl (fun _ => rfl) (fun _ _ => (Nat.le_of_ble_eq_true rfl : 19 <= 26))).trans ((ZAV.cell 6 6 (.io false (inT l) 19) (x := .v .nilIface) rfl rfl (fun _ => rfl) (fun _ _ => (Nat.le_of_ble_eq_true rfl : 20 <= 26))).trans ((ZAV.cell 6 7 (.io false (inT l) 20) (x := .v .nilIface) rfl rfl (fun _ => rfl) (fun _ _ => (Nat.le_of_ble_eq_true rfl : 21 <= 26))).trans ((ZAV.cell 6 8 (.io false (inT l) 21) (x := .v .nilIface) rfl rfl (fun _ => rfl) (fun _ _ => (Nat.le_of_ble_eq_true rfl : 22 <= 26))).trans ((ZAV.cell 6 9 (.io false (inT l) 22) (x := .v .nilIface) rfl rfl (fun _ => rfl) (fun _ _ => (Nat.le_of_ble_eq_true rfl : 23 <= 26))).trans ((ZAV.cell 6 10 (.io false (inT l) 23) (x := .v .nilIface) rfl rfl (fun _ => rfl) (fun _ _ => (Nat.le_of_ble_eq_true rfl : 24 <= 26))).trans ((ZAV.cell 6 11 (.io false (inT l) 24) (x := .v .nilIface) rfl rfl (fun _ => rfl) (fun _ _ => (Nat.le_of_ble_eq_true rfl : 25 <= 26))).trans (ZAV.cell 6 12 (.io false (inT l) 25) (x := .v .nilIface) rfl rfl (fun _ => rfl) (fun _ _ => (Nat.le_of_ble_eq_true rfl : 26 <= 26))))))))))))))))))) ?_
      refine ZAW hA [0, 1, 2, 3, 4, 5, 6, 7, 8, 9, 10, 11, 12, 13, 14, 15, 16, 17, 18, 19, 20, 21, 22, 23, 24, 25] rfl rfl rfl ZAe ?_ rfl
      exact ZAD
     rcases (show c = 0 \/ c = 1 \/ c = 2 \/ c = 3 \/ c = 4 \/ c = 5 \/ c = 6 \/ c = 7 \/ c = 8 by omega) with rfl | rfl | rfl | rfl | rfl | rfl | rfl | rfl | rfl
     ·have hin := ZCk l hl th (l3 l cn p0 0).1 (l3 l cn p0 0).2.1 (l3 l cn p0 0).2.2 (fun _ => 0) (cn 0)
      have hMc := ZGV (l := l) (p0 := p0) hcn64 0
      cases hb : Nat.blt 0 (cn 0) with
      | true =>
       have hb1 : 0 < cn 0 := Nat.le_of_ble_eq_true hb
       have hs3 := ZES (l := l) (p0 := p0) hb
       specialize hin (by omega) ⟨hb1, hcn64 0⟩ (ZCE (by decide) _)
       conv => whnf
       (refine ZAE ?_; conv => whnf)
       refine ZAg (m := 8) (e := 22) (by rw [hP]; kernel_rfl) (by rw [hP]; kernel_rfl) (by rw [hP]; kernel_rfl) rfl (c := 0) rfl (by decide) rfl ?_
       conv => whnf
       refine dsplit (fun h1 => ?_) (fun h1 => absurd (show (0 : Int) < ((cn 0 : Nat) : Int) by omega) h1)
       conv => whnf
       (refine ZAl (by rw [hP]; exact follows) 60 (by kernel_rfl) ?_; conv => whnf)
       repeat' (first | (refine And.intro (by first | omega | decide | (simp [ZAI]; omega)) ?_; conv => whnf) | (refine And.intro ?_ ?_ <;> (conv => whnf)))
       all_goals (refine ZAB hP (hin) ?_; (conv => whnf); refine zA ?_; conv => whnf)
       repeat' (first | (refine And.intro (by first | omega | decide | (simp [ZAI]; omega)) ?_; conv => whnf) | (refine And.intro ?_ ?_ <;> (conv => whnf)))
       all_goals
        (repeat' ((first | refine aI ?_ | refine a64 ?_ | refine a32 ?_ | refine a8 ?_); conv => whnf))
        refine ⟨1, by omega, by omega, ?_⟩
        conv => whnf
        refine Imp.trans (ZAj (ZAV.cell 6 5 (.io (Nat.blt 0 (cn 0)) (inT l) 26) rfl rfl (fun _ => by rw [hb]; rfl) (fun _ hh => hh))) ?_
        refine ZAW hA [0, 1, 2, 3, 4, 5, 6, 7, 8, 9, 10, 11, 12, 13, 14, 15, 16, 17, 26, 19, 20, 21, 22, 23, 24, 25] rfl rfl rfl ZAe ?_ rfl
        refine ⟨⟨rfl, .inl (by first | (rw [hs3]; done) | (rw [hs3]; rfl))⟩, rfl, ⟨rfl, .inr ⟨ZAM (ZAX _ _ _), fun ls lc F w hh => ZBA hb hh⟩⟩, ⟨rfl, .inl rfl⟩, ⟨rfl, .inl rfl⟩, ⟨rfl, .inl rfl⟩, ⟨rfl, .inl rfl⟩, ⟨rfl, .inl rfl⟩, ⟨rfl, .inl rfl⟩, ⟨rfl, .inl rfl⟩, ZAD⟩
      | false =>
       have hb1 : ¬ 0 < cn 0 := fun hh => by have h2 : Nat.blt 0 (cn 0) = true := Nat.ble_eq_true_of_le hh; rw [h2] at hb; cases hb
       have hs3 := ZG4 (l := l) (p0 := p0) hb
       conv => whnf
       (refine ZAE ?_; conv => whnf)
       refine ZAg (m := 8) (e := 22) (by rw [hP]; kernel_rfl) (by rw [hP]; kernel_rfl) (by rw [hP]; kernel_rfl) rfl (c := 0) rfl (by decide) rfl ?_
       conv => whnf
       refine dsplit (fun h1 => absurd (show (0 : Int) < ((cn 0 : Nat) : Int) from h1) (by omega)) (fun h1 => ?_)
       conv => whnf
       (repeat' ((first | refine aI ?_ | refine a64 ?_ | refine a32 ?_ | refine a8 ?_); conv => whnf))
       refine ⟨1, by omega, by omega, ?_⟩
       conv => whnf
       refine Imp.trans (ZAj (ZAV.cell 6 5 (.io (Nat.blt 0 (cn 0)) (inT l) 18) rfl rfl (fun _ => by rw [hb]; rfl) (fun _ hh => hh))) ?_
       refine ZAW hA [0, 1, 2, 3, 4, 5, 6, 7, 8, 9, 10, 11, 12, 13, 14, 15, 16, 17, 18, 19, 20, 21, 22, 23, 24, 25] rfl rfl rfl ZAe ?_ rfl
       refine ⟨⟨rfl, .inl (by first | (rw [hs3]; done) | (rw [hs3]; rfl))⟩, rfl, ⟨rfl, .inr ⟨ZAM (ZAX _ _ _), fun ls lc F w hh => ZDM hb hh⟩⟩, ⟨rfl, .inl rfl⟩, ⟨rfl, .inl rfl⟩, ⟨rfl, .inl rfl⟩, ⟨rfl, .inl rfl⟩, ⟨rfl, .inl rfl⟩, ⟨rfl, .inl rfl⟩, ⟨rfl, .inl rfl⟩, ZAD⟩
     ·have hin := ZCk l hl th (l3 l cn p0 1).1 (l3 l cn p0 1).2.1 (l3 l cn p0 1).2.2 (fun _ => 1) (cn 1)
      have hMc := ZGV (l := l) (p0 := p0) hcn64 1
      cases hb : Nat.blt 0 (cn 1) with
      | true =>
       have hb1 : 0 < cn 1 := Nat.le_of_ble_eq_true hb
       have hs3 := ZES (l := l) (p0 := p0) hb
       specialize hin (by omega) ⟨hb1, hcn64 1⟩ (ZCE (by decide) _)
       conv => whnf
       (refine ZAE ?_; conv => whnf)
       refine ZAg (m := 8) (e := 22) (by rw [hP]; kernel_rfl) (by rw [hP]; kernel_rfl) (by rw [hP]; kernel_rfl) rfl (c := 1) rfl (by decide) rfl ?_
       conv => whnf
       refine dsplit (fun h1 => ?_) (fun h1 => absurd (show (0 : Int) < ((cn 1 : Nat) : Int) by omega) h1)
       conv => whnf
       (refine ZAl (by rw [hP]; exact follows) 60 (by kernel_rfl) ?_; conv => whnf)
       repeat' (first | (refine And.intro (by first | omega | decide | (simp [ZAI]; omega)) ?_; conv => whnf) | (refine And.intro ?_ ?_ <;> (conv => whnf)))
       all_goals (refine ZAB hP (hin) ?_; (conv => whnf); refine zA ?_; conv => whnf)
       repeat' (first | (refine And.intro (by first | omega | decide | (simp [ZAI]; omega)) ?_; conv => whnf) | (refine And.intro ?_ ?_ <;> (conv => whnf)))
       all_goals
        (repeat' ((first | refine aI ?_ | refine a64 ?_ | refine a32 ?_ | refine a8 ?_); conv => whnf))
        refine ⟨2, by omega, by omega, ?_⟩
        conv => whnf
        refine Imp.trans (ZAj (ZAV.cell 6 6 (.io (Nat.blt 0 (cn 1)) (inT l) 26) rfl rfl (fun _ => by rw [hb]; rfl) (fun _ hh => hh))) ?_
        refine ZAW hA [0, 1, 2, 3, 4, 5, 6, 7, 8, 9, 10, 11, 12, 13, 14, 15, 16, 17, 18, 26, 20, 21, 22, 23, 24, 25] rfl rfl rfl ZAe ?_ rfl
        refine ⟨⟨rfl, .inl (by first | (rw [hs3]; done) | (rw [hs3]; rfl))⟩, rfl, ⟨rfl, .inl rfl⟩, ⟨rfl, .inr ⟨ZAM (ZAX _ _ _), fun ls lc F w hh => ZBA hb hh⟩⟩, ⟨rfl, .inl rfl⟩, ⟨rfl, .inl rfl⟩, ⟨rfl, .inl rfl⟩, ⟨rfl, .inl rfl⟩, ⟨rfl, .inl rfl⟩, ⟨rfl, .inl rfl⟩, ZAD⟩
      | false =>
       have hb1 : ¬ 0 < cn 1 := fun hh => by have h2 : Nat.blt 0 (cn 1) = true := Nat.ble_eq_true_of_le hh; rw [h2] at hb; cases hb
       have hs3 := ZG4 (l := l) (p0 := p0) hb
       conv => whnf
       (refine ZAE ?_; conv => whnf)
       refine ZAg (m := 8) (e := 22) (by rw [hP]; kernel_rfl) (by rw [hP]; kernel_rfl) (by rw [hP]; kernel_rfl) rfl (c := 1) rfl (by decide) rfl ?_
       conv => whnf
       refine dsplit (fun h1 => absurd (show (0 : Int) < ((cn 1 : Nat) : Int) from h1) (by omega)) (fun h1 => ?_)
       conv => whnf
       (repeat' ((first | refine aI ?_ | refine a64 ?_ | refine a32 ?_ | refine a8 ?_); conv => whnf))
       refine ⟨2, by omega, by omega, ?_⟩
       conv => whnf
       refine Imp.trans (ZAj (ZAV.cell 6 6 (.io (Nat.blt 0 (cn 1)) (inT l) 19) rfl rfl (fun _ => by rw [hb]; rfl) (fun _ hh => hh))) ?_
       refine ZAW hA [0, 1, 2, 3, 4, 5, 6, 7, 8, 9, 10, 11, 12, 13, 14, 15, 16, 17, 18, 19, 20, 21, 22, 23, 24, 25] rfl rfl rfl ZAe ?_ rfl
       refine ⟨⟨rfl, .inl (by first | (rw [hs3]; done) | (rw [hs3]; rfl))⟩, rfl, ⟨rfl, .inl rfl⟩, ⟨rfl, .inr ⟨ZAM (ZAX _ _ _), fun ls lc F w hh => ZDM hb hh⟩⟩, ⟨rfl, .inl rfl⟩, ⟨rfl, .inl rfl⟩, ⟨rfl, .inl rfl⟩, ⟨rfl, .inl rfl⟩, ⟨rfl, .inl rfl⟩, ⟨rfl, .inl rfl⟩, ZAD⟩
     ·have hin := ZCk l hl th (l3 l cn p0 2).1 (l3 l cn p0 2).2.1 (l3 l cn p0 2).2.2 (fun _ => 2) (cn 2)
      have hMc := ZGV (l := l) (p0 := p0) hcn64 2
      cases hb : Nat.blt 0 (cn 2) with
      | true =>
       have hb1 : 0 < cn 2 := Nat.le_of_ble_eq_true hb
       have hs3 := ZES (l := l) (p0 := p0) hb
       specialize hin (by omega) ⟨hb1, hcn64 2⟩ (ZCE (by decide) _)
       conv => whnf
       (refine ZAE ?_; conv => whnf)
       refine ZAg (m := 8) (e := 22) (by rw [hP]; kernel_rfl) (by rw [hP]; kernel_rfl) (by rw [hP]; kernel_rfl) rfl (c := 2) rfl (by decide) rfl ?_
       conv => whnf
       refine dsplit (fun h1 => ?_) (fun h1 => absurd (show (0 : Int) < ((cn 2 : Nat) : Int) by omega) h1)
       conv => whnf
       (refine ZAl (by rw [hP]; exact follows) 60 (by kernel_rfl) ?_; conv => whnf)
       repeat' (first | (refine And.intro (by first | omega | decide | (simp [ZAI]; omega)) ?_; conv => whnf) | (refine And.intro ?_ ?_ <;> (conv => whnf)))
       all_goals (refine ZAB hP (hin) ?_; (conv => whnf); refine zA ?_; conv => whnf)
       repeat' (first | (refine And.intro (by first | omega | decide | (simp [ZAI]; omega)) ?_; conv => whnf) | (refine And.intro ?_ ?_ <;> (conv => whnf)))
       all_goals
        (repeat' ((first | refine aI ?_ | refine a64 ?_ | refine a32 ?_ | refine a8 ?_); conv => whnf))
        refine ⟨3, by omega, by omega, ?_⟩
        conv => whnf
        refine Imp.trans (ZAj (ZAV.cell 6 7 (.io (Nat.blt 0 (cn 2)) (inT l) 26) rfl rfl (fun _ => by rw [hb]; rfl) (fun _ hh => hh))) ?_
        refine ZAW hA [0, 1, 2, 3, 4, 5, 6, 7, 8, 9, 10, 11, 12, 13, 14, 15, 16, 17, 18, 19, 26, 21, 22, 23, 24, 25] rfl rfl rfl ZAe ?_ rfl
        refine ⟨⟨rfl, .inl (by first | (rw [hs3]; done) | (rw [hs3]; rfl))⟩, rfl, ⟨rfl, .inl rfl⟩, ⟨rfl, .inl rfl⟩, ⟨rfl, .inr ⟨ZAM (ZAX _ _ _), fun ls lc F w hh => ZBA hb hh⟩⟩, ⟨rfl, .inl rfl⟩, ⟨rfl, .inl rfl⟩, ⟨rfl, .inl rfl⟩, ⟨rfl, .inl rfl⟩, ⟨rfl, .inl rfl⟩, ZAD⟩
      | false =>
       have hb1 : ¬ 0 < cn 2 := fun hh => by have h2 : Nat.blt 0 (cn 2) = true := Nat.ble_eq_true_of_le hh; rw [h2] at hb; cases hb
       have hs3 := ZG4 (l := l) (p0 := p0) hb
       conv => whnf
       (refine ZAE ?_; conv => whnf)
       refine ZAg (m := 8) (e := 22) (by rw [hP]; kernel_rfl) (by rw [hP]; kernel_rfl) (by rw [hP]; kernel_rfl) rfl (c := 2) rfl (by decide) rfl ?_
       conv => whnf
       refine dsplit (fun h1 => absurd (show (0 : Int) < ((cn 2 : Nat) : Int) from h1) (by omega)) (fun h1 => ?_)
       conv => whnf
       (repeat' ((first | refine aI ?_ | refine a64 ?_ | refine a32 ?_ | refine a8 ?_); conv => whnf))
       refine ⟨3, by omega, by omega, ?_⟩
       conv => whnf
       refine Imp.trans (ZAj (ZAV.cell 6 7 (.io (Nat.blt 0 (cn 2)) (inT l) 20) rfl rfl (fun _ => by rw [hb]; rfl) (fun _ hh => hh))) ?_
       refine ZAW hA [0, 1, 2, 3, 4, 5, 6, 7, 8, 9, 10, 11, 12, 13, 14, 15, 16, 17, 18, 19, 20, 21, 22, 23, 24, 25] rfl rfl rfl ZAe ?_ rfl
       refine ⟨⟨rfl, .inl (by first | (rw [hs3]; done) | (rw [hs3]; rfl))⟩, rfl, ⟨rfl, .inl rfl⟩, ⟨rfl, .inl rfl⟩, ⟨rfl, .inr ⟨ZAM (ZAX _ _ _), fun ls lc F w hh => ZDM hb hh⟩⟩, ⟨rfl, .inl rfl⟩, ⟨rfl, .inl rfl⟩, ⟨rfl, .inl rfl⟩, ⟨rfl, .inl rfl⟩, ⟨rfl, .inl rfl⟩, ZAD⟩
     ·have hin := ZCk l hl th (l3 l cn p0 3).1 (l3 l cn p0 3).2.1 (l3 l cn p0 3).2.2 (fun _ => 3) (cn 3)
      have hMc := ZGV (l := l) (p0 := p0) hcn64 3
      cases hb : Nat.blt 0 (cn 3) with
      | true =>
       have hb1 : 0 < cn 3 := Nat.le_of_ble_eq_true hb
       have hs3 := ZES (l := l) (p0 := p0) hb
       specialize hin (by omega) ⟨hb1, hcn64 3⟩ (ZCE (by decide) _)
       conv => whnf
       (refine ZAE ?_; conv => whnf)
       refine ZAg (m := 8) (e := 22) (by rw [hP]; kernel_rfl) (by rw [hP]; kernel_rfl) (by rw [hP]; kernel_rfl) rfl (c := 3) rfl (by decide) rfl ?_
       conv => whnf
       refine dsplit (fun h1 => ?_) (fun h1 => absurd (show (0 : Int) < ((cn 3 : Nat) : Int) by omega) h1)
       conv => whnf
       (refine ZAl (by rw [hP]; exact follows) 60 (by kernel_rfl) ?_; conv => whnf)
       repeat' (first | (refine And.intro (by first | omega | decide | (simp [ZAI]; omega)) ?_; conv => whnf) | (refine And.intro ?_ ?_ <;> (conv => whnf)))
       all_goals (refine ZAB hP (hin) ?_; (conv => whnf); refine zA ?_; conv => whnf)
       repeat' (first | (refine And.intro (by first | omega | decide | (simp [ZAI]; omega)) ?_; conv => whnf) | (refine And.intro ?_ ?_ <;> (conv => whnf)))
       all_goals
        (repeat' ((first | refine aI ?_ | refine a64 ?_ | refine a32 ?_ | refine a8 ?_); conv => whnf))
        refine ⟨4, by omega, by omega, ?_⟩
        conv => whnf
        refine Imp.trans (ZAj (ZAV.cell 6 8 (.io (Nat.blt 0 (cn 3)) (inT l) 26) rfl rfl (fun _ => by rw [hb]; rfl) (fun _ hh => hh))) ?_
        refine ZAW hA [0, 1, 2, 3, 4, 5, 6, 7, 8, 9, 10, 11, 12, 13, 14, 15, 16, 17, 18, 19, 20, 26, 22, 23, 24, 25] rfl rfl rfl ZAe ?_ rfl
        refine ⟨⟨rfl, .inl (by first | (rw [hs3]; done) | (rw [hs3]; rfl))⟩, rfl, ⟨rfl, .inl rfl⟩, ⟨rfl, .inl rfl⟩, ⟨rfl, .inl rfl⟩, ⟨rfl, .inr ⟨ZAM (ZAX _ _ _), fun ls lc F w hh => ZBA hb hh⟩⟩, ⟨rfl, .inl rfl⟩, ⟨rfl, .inl rfl⟩, ⟨rfl, .inl rfl⟩, ⟨rfl, .inl rfl⟩, ZAD⟩
      | false =>
       have hb1 : ¬ 0 < cn 3 := fun hh => by have h2 : Nat.blt 0 (cn 3) = true := Nat.ble_eq_true_of_le hh; rw [h2] at hb; cases hb
       have hs3 := ZG4 (l := l) (p0 := p0) hb
       conv => whnf
       (refine ZAE ?_; conv => whnf)
       refine ZAg (m := 8) (e := 22) (by rw [hP]; kernel_rfl) (by rw [hP]; kernel_rfl) (by rw [hP]; kernel_rfl) rfl (c := 3) rfl (by decide) rfl ?_
       conv => whnf
       refine dsplit (fun h1 => absurd (show (0 : Int) < ((cn 3 : Nat) : Int) from h1) (by omega)) (fun h1 => ?_)
       conv => whnf
       (repeat' ((first | refine aI ?_ | refine a64 ?_ | refine a32 ?_ | refine a8 ?_); conv => whnf))
       refine ⟨4, by omega, by omega, ?_⟩
       conv => whnf
       refine Imp.trans (ZAj (ZAV.cell 6 8 (.io (Nat.blt 0 (cn 3)) (inT l) 21) rfl rfl (fun _ => by rw [hb]; rfl) (fun _ hh => hh))) ?_
       refine ZAW hA [0, 1, 2, 3, 4, 5, 6, 7, 8, 9, 10, 11, 12, 13, 14, 15, 16, 17, 18, 19, 20, 21, 22, 23, 24, 25] rfl rfl rfl ZAe ?_ rfl
       refine ⟨⟨rfl, .inl (by first | (rw [hs3]; done) | (rw [hs3]; rfl))⟩, rfl, ⟨rfl, .inl rfl⟩, ⟨rfl, .inl rfl⟩, ⟨rfl, .inl rfl⟩, ⟨rfl, .inr ⟨ZAM (ZAX _ _ _), fun ls lc F w hh => ZDM hb hh⟩⟩, ⟨rfl, .inl rfl⟩, ⟨rfl, .inl rfl⟩, ⟨rfl, .inl rfl⟩, ⟨rfl, .inl rfl⟩, ZAD⟩
     ·have hin := ZCk l hl th (l3 l cn p0 4).1 (l3 l cn p0 4).2.1 (l3 l cn p0 4).2.2 (fun _ => 4) (cn 4)
      have hMc := ZGV (l := l) (p0 := p0) hcn64 4
      cases hb : Nat.blt 0 (cn 4) with
      | true =>
       have hb1 : 0 < cn 4 := Nat.le_of_ble_eq_true hb
       have hs3 := ZES (l := l) (p0 := p0) hb
       specialize hin (by omega) ⟨hb1, hcn64 4⟩ (ZCE (by decide) _)
       conv => whnf
       (refine ZAE ?_; conv => whnf)
       refine ZAg (m := 8) (e := 22) (by rw [hP]; kernel_rfl) (by rw [hP]; kernel_rfl) (by rw [hP]; kernel_rfl) rfl (c := 4) rfl (by decide) rfl ?_
       conv => whnf
       refine dsplit (fun h1 => ?_) (fun h1 => absurd (show (0 : Int) < ((cn 4 : Nat) : Int) by omega) h1)
       conv => whnf
       (refine ZAl (by rw [hP]; exact follows) 60 (by kernel_rfl) ?_; conv => whnf)
       repeat' (first | (refine And.intro (by first | omega | decide | (simp [ZAI]; omega)) ?_; conv => whnf) | (refine And.intro ?_ ?_ <;> (conv => whnf)))
       all_goals (refine ZAB hP (hin) ?_; (conv => whnf); refine zA ?_; conv => whnf)
       repeat' (first | (refine And.intro (by first | omega | decide | (simp [ZAI]; omega)) ?_; conv => whnf) | (refine And.intro ?_ ?_ <;> (conv => whnf)))
       all_goals
        (repeat' ((first | refine aI ?_ | refine a64 ?_ | refine a32 ?_ | refine a8 ?_); conv => whnf))
        refine ⟨5, by omega, by omega, ?_⟩
        conv => whnf
        refine Imp.trans (ZAj (ZAV.cell 6 9 (.io (Nat.blt 0 (cn 4)) (inT l) 26) rfl rfl (fun _ => by rw [hb]; rfl) (fun _ hh => hh))) ?_
        refine ZAW hA [0, 1, 2, 3, 4, 5, 6, 7, 8, 9, 10, 11, 12, 13, 14, 15, 16, 17, 18, 19, 20, 21, 26, 23, 24, 25] rfl rfl rfl ZAe ?_ rfl
        refine ⟨⟨rfl, .inl (by first | (rw [hs3]; done) | (rw [hs3]; rfl))⟩, rfl, ⟨rfl, .inl rfl⟩, ⟨rfl, .inl rfl⟩, ⟨rfl, .inl rfl⟩, ⟨rfl, .inl rfl⟩, ⟨rfl, .inr ⟨ZAM (ZAX _ _ _), fun ls lc F w hh => ZBA hb hh⟩⟩, ⟨rfl, .inl rfl⟩, ⟨rfl, .inl rfl⟩, ⟨rfl, .inl rfl⟩, ZAD⟩
      | false =>
       have hb1 : ¬ 0 < cn 4 := fun hh => by have h2 : Nat.blt 0 (cn 4) = true := Nat.ble_eq_true_of_le hh; rw [h2] at hb; cases hb
       have hs3 := ZG4 (l := l) (p0 := p0) hb
       conv => whnf
       (refine ZAE ?_; conv => whnf)
       refine ZAg (m := 8) (e := 22) (by rw [hP]; kernel_rfl) (by rw [hP]; kernel_rfl) (by rw [hP]; kernel_rfl) rfl (c := 4) rfl (by decide) rfl ?_
       conv => whnf
       refine dsplit (fun h1 => absurd (show (0 : Int) < ((cn 4 : Nat) : Int) from h1) (by omega)) (fun h1 => ?_)
       conv => whnf
       (repeat' ((first | refine aI ?_ | refine a64 ?_ | refine a32 ?_ | refine a8 ?_); conv => whnf))
       refine ⟨5, by omega, by omega, ?_⟩
       conv => whnf
       refine Imp.trans (ZAj (ZAV.cell 6 9 (.io (Nat.blt 0 (cn 4)) (inT l) 22) rfl rfl (fun _ => by rw [hb]; rfl) (fun _ hh => hh))) ?_
       refine ZAW hA [0, 1, 2, 3, 4, 5, 6, 7, 8, 9, 10, 11, 12, 13, 14, 15, 16, 17, 18, 19, 20, 21, 22, 23, 24, 25] rfl rfl rfl ZAe ?_ rfl
       refine ⟨⟨rfl, .inl (by first | (rw [hs3]; done) | (rw [hs3]; rfl))⟩, rfl, ⟨rfl, .inl rfl⟩, ⟨rfl, .inl rfl⟩, ⟨rfl, .inl rfl⟩, ⟨rfl, .inl rfl⟩, ⟨rfl, .inr ⟨ZAM (ZAX _ _ _), fun ls lc F w hh => ZDM hb hh⟩⟩, ⟨rfl, .inl rfl⟩, ⟨rfl, .inl rfl⟩, ⟨rfl, .inl rfl⟩, ZAD⟩
     ·have hin := ZCk l hl th (l3 l cn p0 5).1 (l3 l cn p0 5).2.1 (l3 l cn p0 5).2.2 (fun _ => 5) (cn 5)
      have hMc := ZGV (l := l) (p0 := p0) hcn64 5
      cases hb : Nat.blt 0 (cn 5) with
      | true =>
       have hb1 : 0 < cn 5 := Nat.le_of_ble_eq_true hb
       have hs3 := ZES (l := l) (p0 := p0) hb
       specialize hin (by omega) ⟨hb1, hcn64 5⟩ (ZCE (by decide) _)
       conv => whnf
       (refine ZAE ?_; conv => whnf)
       refine ZAg (m := 8) (e := 22) (by rw [hP]; kernel_rfl) (by rw [hP]; kernel_rfl) (by rw [hP]; kernel_rfl) rfl (c := 5) rfl (by decide) rfl ?_
       conv => whnf
       refine dsplit (fun h1 => ?_) (fun h1 => absurd (show (0 : Int) < ((cn 5 : Nat) : Int) by omega) h1)
       conv => whnf
       (refine ZAl (by rw [hP]; exact follows) 60 (by kernel_rfl) ?_; conv => whnf)
       repeat' (first | (refine And.intro (by first | omega | decide | (simp [ZAI]; omega)) ?_; conv => whnf) | (refine And.intro ?_ ?_ <;> (conv => whnf)))
       all_goals (refine ZAB hP (hin) ?_; (conv => whnf); refine zA ?_; conv => whnf)
       repeat' (first | (refine And.intro (by first | omega | decide | (simp [ZAI]; omega)) ?_; conv => whnf) | (refine And.intro ?_ ?_ <;> (conv => whnf)))
       all_goals
        (repeat' ((first | refine aI ?_ | refine a64 ?_ | refine a32 ?_ | refine a8 ?_); conv => whnf))
        refine ⟨6, by omega, by omega, ?_⟩
        conv => whnf
        refine Imp.trans (ZAj (ZAV.cell 6 10 (.io (Nat.blt 0 (cn 5)) (inT l) 26) rfl rfl (fun _ => by rw [hb]; rfl) (fun _ hh => hh))) ?_
        refine ZAW hA [0, 1, 2, 3, 4, 5, 6, 7, 8, 9, 10, 11, 12, 13, 14, 15, 16, 17, 18, 19, 20, 21, 22, 26, 24, 25] rfl rfl rfl ZAe ?_ rfl
        refine ⟨⟨rfl, .inl (by first | (rw [hs3]; done) | (rw [hs3]; rfl))⟩, rfl, ⟨rfl, .inl rfl⟩, ⟨rfl, .inl rfl⟩, ⟨rfl, .inl rfl⟩, ⟨rfl, .inl rfl⟩, ⟨rfl, .inl rfl⟩, ⟨rfl, .inr ⟨ZAM (ZAX _ _ _), fun ls lc F w hh => ZBA hb hh⟩⟩, ⟨rfl, .inl rfl⟩, ⟨rfl, .inl rfl⟩, ZAD⟩
      | false =>
       have hb1 : ¬ 0 < cn 5 := fun hh => by have h2 : Nat.blt 0 (cn 5) = true := Nat.ble_eq_true_of_le hh; rw [h2] at hb; cases hb
       have hs3 := ZG4 (l := l) (p0 := p0) hb
       conv => whnf
       (refine ZAE ?_; conv => whnf)
       refine ZAg (m := 8) (e := 22) (by rw [hP]; kernel_rfl) (by rw [hP]; kernel_rfl) (by rw [hP]; kernel_rfl) rfl (c := 5) rfl (by decide) rfl ?_
       conv => whnf
       refine dsplit (fun h1 => absurd (show (0 : Int) < ((cn 5 : Nat) : Int) from h1) (by omega)) (fun h1 => ?_)
       conv => whnf
       (repeat' ((first | refine aI ?_ | refine a64 ?_ | refine a32 ?_ | refine a8 ?_); conv => whnf))
       refine ⟨6, by omega, by omega, ?_⟩
       conv => whnf
       refine Imp.trans (ZAj (ZAV.cell 6 10 (.io (Nat.blt 0 (cn 5)) (inT l) 23) rfl rfl (fun _ => by rw [hb]; rfl) (fun _ hh => hh))) ?_
       refine ZAW hA [0, 1, 2, 3, 4, 5, 6, 7, 8, 9, 10, 11, 12, 13, 14, 15, 16, 17, 18, 19, 20, 21, 22, 23, 24, 25] rfl rfl rfl ZAe ?_ rfl
       refine ⟨⟨rfl, .inl (by first | (rw [hs3]; done) | (rw [hs3]; rfl))⟩, rfl, ⟨rfl, .inl rfl⟩, ⟨rfl, .inl rfl⟩, ⟨rfl, .inl rfl⟩, ⟨rfl, .inl rfl⟩, ⟨rfl, .inl rfl⟩, ⟨rfl, .inr ⟨ZAM (ZAX _ _ _), fun ls lc F w hh => ZDM hb hh⟩⟩, ⟨rfl, .inl rfl⟩, ⟨rfl, .inl rfl⟩, ZAD⟩
     ·have hin := ZCk l hl th (l3 l cn p0 6).1 (l3 l cn p0 6).2.1 (l3 l cn p0 6).2.2 (fun _ => 6) (cn 6)
      have hMc := ZGV (l := l) (p0 := p0) hcn64 6
      cases hb : Nat.blt 0 (cn 6) with
      | true =>
       have hb1 : 0 < cn 6 := Nat.le_of_ble_eq_true hb
       have hs3 := ZES (l := l) (p0 := p0) hb
       specialize hin (by omega) ⟨hb1, hcn64 6⟩ (ZCE (by decide) _)
       conv => whnf
       (refine ZAE ?_; conv => whnf)
       refine ZAg (m := 8) (e := 22) (by rw [hP]; kernel_rfl) (by rw [hP]; kernel_rfl) (by rw [hP]; kernel_rfl) rfl (c := 6) rfl (by decide) rfl ?_
       conv => whnf
       refine dsplit (fun h1 => ?_) (fun h1 => absurd (show (0 : Int) < ((cn 6 : Nat) : Int) by omega) h1)
       conv => whnf
       (refine ZAl (by rw [hP]; exact follows) 60 (by kernel_rfl) ?_; conv => whnf)
       repeat' (first | (refine And.intro (by first | omega | decide | (simp [ZAI]; omega)) ?_; conv => whnf) | (refine And.intro ?_ ?_ <;> (conv => whnf)))
       all_goals (refine ZAB hP (hin) ?_; (conv => whnf); refine zA ?_; conv => whnf)
       repeat' (first | (refine And.intro (by first | omega | decide | (simp [ZAI]; omega)) ?_; conv => whnf) | (refine And.intro ?_ ?_ <;> (conv => whnf)))
       all_goals
        (repeat' ((first | refine aI ?_ | refine a64 ?_ | refine a32 ?_ | refine a8 ?_); conv => whnf))
        refine ⟨7, by omega, by omega, ?_⟩
        conv => whnf
        refine Imp.trans (ZAj (ZAV.cell 6 11 (.io (Nat.blt 0 (cn 6)) (inT l) 26) rfl rfl (fun _ => by rw [hb]; rfl) (fun _ hh => hh))) ?_
        refine ZAW hA [0, 1, 2, 3, 4, 5, 6, 7, 8, 9, 10, 11, 12, 13, 14, 15, 16, 17, 18, 19, 20, 21, 22, 23, 26, 25] rfl rfl rfl ZAe ?_ rfl
        refine ⟨⟨rfl, .inl (by first | (rw [hs3]; done) | (rw [hs3]; rfl))⟩, rfl, ⟨rfl, .inl rfl⟩, ⟨rfl, .inl rfl⟩, ⟨rfl, .inl rfl⟩, ⟨rfl, .inl rfl⟩, ⟨rfl, .inl rfl⟩, ⟨rfl, .inl rfl⟩, ⟨rfl, .inr ⟨ZAM (ZAX _ _ _), fun ls lc F w hh => ZBA hb hh⟩⟩, ⟨rfl, .inl rfl⟩, ZAD⟩
      | false =>
       have hb1 : ¬ 0 < cn 6 := fun hh => by have h2 : Nat.blt 0 (cn 6) = true := Nat.ble_eq_true_of_le hh; rw [h2] at hb; cases hb
       have hs3 := ZG4 (l := l) (p0 := p0) hb
       conv => whnf
       (refine ZAE ?_; conv => whnf)
       refine ZAg (m := 8) (e := 22) (by rw [hP]; kernel_rfl) (by rw [hP]; kernel_rfl) (by rw [hP]; kernel_rfl) rfl (c := 6) rfl (by decide) rfl ?_
       conv => whnf
       refine dsplit (fun h1 => absurd (show (0 : Int) < ((cn 6 : Nat) : Int) from h1) (by omega)) (fun h1 => ?_)
       conv => whnf
       (repeat' ((first | refine aI ?_ | refine a64 ?_ | refine a32 ?_ | refine a8 ?_); conv => whnf))
       refine ⟨7, by omega, by omega, ?_⟩
       conv => whnf
       refine Imp.trans (ZAj (ZAV.cell 6 11 (.io (Nat.blt 0 (cn 6)) (inT l) 24) rfl rfl (fun _ => by rw [hb]; rfl) (fun _ hh => hh))) ?_
       refine ZAW hA [0, 1, 2, 3, 4, 5, 6, 7, 8, 9, 10, 11, 12, 13, 14, 15, 16, 17, 18, 19, 20, 21, 22, 23, 24, 25] rfl rfl rfl ZAe ?_ rfl
       refine ⟨⟨rfl, .inl (by first | (rw [hs3]; done) | (rw [hs3]; rfl))⟩, rfl, ⟨rfl, .inl rfl⟩, ⟨rfl, .inl rfl⟩, ⟨rfl, .inl rfl⟩, ⟨rfl, .inl rfl⟩, ⟨rfl, .inl rfl⟩, ⟨rfl, .inl rfl⟩, ⟨rfl, .inr ⟨ZAM (ZAX _ _ _), fun ls lc F w hh => ZDM hb hh⟩⟩, ⟨rfl, .inl rfl⟩, ZAD⟩
     ·have hin := ZCk l hl th (l3 l cn p0 7).1 (l3 l cn p0 7).2.1 (l3 l cn p0 7).2.2 (fun _ => 7) (cn 7)
      have hMc := ZGV (l := l) (p0 := p0) hcn64 7
      cases hb : Nat.blt 0 (cn 7) with
      | true =>
       have hb1 : 0 < cn 7 := Nat.le_of_ble_eq_true hb
       have hs3 := ZES (l := l) (p0 := p0) hb
       specialize hin (by omega) ⟨hb1, hcn64 7⟩ (ZCE (by decide) _)
       conv => whnf
       (refine ZAE ?_; conv => whnf)
       refine ZAg (m := 8) (e := 22) (by rw [hP]; kernel_rfl) (by rw [hP]; kernel_rfl) (by rw [hP]; kernel_rfl) rfl (c := 7) rfl (by decide) rfl ?_
       conv => whnf
       refine dsplit (fun h1 => ?_) (fun h1 => absurd (show (0 : Int) < ((cn 7 : Nat) : Int) by omega) h1)
       conv => whnf
       (refine ZAl (by rw [hP]; exact follows) 60 (by kernel_rfl) ?_; conv => whnf)
       repeat' (first | (refine And.intro (by first | omega | decide | (simp [ZAI]; omega)) ?_; conv => whnf) | (refine And.intro ?_ ?_ <;> (conv => whnf)))
       all_goals (refine ZAB hP (hin) ?_; (conv => whnf); refine zA ?_; conv => whnf)
       repeat' (first | (refine And.intro (by first | omega | decide | (simp [ZAI]; omega)) ?_; conv => whnf) | (refine And.intro ?_ ?_ <;> (conv => whnf)))
       all_goals
        (repeat' ((first | refine aI ?_ | refine a64 ?_ | refine a32 ?_ | refine a8 ?_); conv => whnf))
        refine ⟨8, by omega, by omega, ?_⟩
        conv => whnf
        refine Imp.trans (ZAj (ZAV.cell 6 12 (.io (Nat.blt 0 (cn 7)) (inT l) 26) rfl rfl (fun _ => by rw [hb]; rfl) (fun _ hh => hh))) ?_
        refine ZAW hA [0, 1, 2, 3, 4, 5, 6, 7, 8, 9, 10, 11, 12, 13, 14, 15, 16, 17, 18, 19, 20, 21, 22, 23, 24, 26] rfl rfl rfl ZAe ?_ rfl
        refine ⟨⟨rfl, .inl (by first | (rw [hs3]; done) | (rw [hs3]; rfl))⟩, rfl, ⟨rfl, .inl rfl⟩, ⟨rfl, .inl rfl⟩, ⟨rfl, .inl rfl⟩, ⟨rfl, .inl rfl⟩, ⟨rfl, .inl rfl⟩, ⟨rfl, .inl rfl⟩, ⟨rfl, .inl rfl⟩, ⟨rfl, .inr ⟨ZAM (ZAX _ _ _), fun ls lc F w hh => ZBA hb hh⟩⟩, ZAD⟩
      | false =>
       have hb1 : ¬ 0 < cn 7 := fun hh => by have h2 : Nat.blt 0 (cn 7) = true := Nat.ble_eq_true_of_le hh; rw [h2] at hb; cases hb
       have hs3 := ZG4 (l := l) (p0 := p0) hb
       conv => whnf
       (refine ZAE ?_; conv => whnf)
       refine ZAg (m := 8) (e := 22) (by rw [hP]; kernel_rfl) (by rw [hP]; kernel_rfl) (by rw [hP]; kernel_rfl) rfl (c := 7) rfl (by decide) rfl ?_
       conv => whnf
       refine dsplit (fun h1 => absurd (show (0 : Int) < ((cn 7 : Nat) : Int) from h1) (by omega)) (fun h1 => ?_)
       conv => whnf
       (repeat' ((first | refine aI ?_ | refine a64 ?_ | refine a32 ?_ | refine a8 ?_); conv => whnf))
       refine ⟨8, by omega, by omega, ?_⟩
       conv => whnf
       refine Imp.trans (ZAj (ZAV.cell 6 12 (.io (Nat.blt 0 (cn 7)) (inT l) 25) rfl rfl (fun _ => by rw [hb]; rfl) (fun _ hh => hh))) ?_
       refine ZAW hA [0, 1, 2, 3, 4, 5, 6, 7, 8, 9, 10, 11, 12, 13, 14, 15, 16, 17, 18, 19, 20, 21, 22, 23, 24, 25] rfl rfl rfl ZAe ?_ rfl
       refine ⟨⟨rfl, .inl (by first | (rw [hs3]; done) | (rw [hs3]; rfl))⟩, rfl, ⟨rfl, .inl rfl⟩, ⟨rfl, .inl rfl⟩, ⟨rfl, .inl rfl⟩, ⟨rfl, .inl rfl⟩, ⟨rfl, .inl rfl⟩, ⟨rfl, .inl rfl⟩, ⟨rfl, .inl rfl⟩, ⟨rfl, .inr ⟨ZAM (ZAX _ _ _), fun ls lc F w hh => ZDM hb hh⟩⟩, ZAD⟩
     ·conv => whnf
      refine ZBF (ZCW [6, 2, 9, 5, 18, 19, 20, 21, 22, 23, 24, 25] (H := ZPp m M g l bu cn p0 (ZCe h m)) (np := 12) 0 rfl (by decide) rfl rfl ?_ rfl) (Nat.le_of_ble_eq_true rfl) ?_
      ·exact ZAD
      ·(refine ZAC ?_; conv => whnf); exact zF
def ZKh (m M g l : Nat) (budget : Int) (cn : Nat -> Nat) (p0 : Nat × (Nat -> Int) × (Nat -> Int)) (pl : Nat -> List Value) : Heap :=
 [(0, some (.st [.p 2 0 0 0, .p 1 0 0 0, .v (.int .i64 M), .v (.int .u32 budget), .i (inT g) 3, .io (lb cn 8 0) (inT l) 5, .io (lb cn 8 1) (inT l) 6, .io (lb cn 8 2) (inT l) 7, .io (lb cn 8 3) (inT l) 8, .io (lb cn 8 4) (inT l) 9, .io (lb cn 8 5) (inT l) 10, .io (lb cn 8 6) (inT l) 11, .io (lb cn 8 7) (inT l) 12, .s 4 4 0 m 0])), (2, some (ZBe m (fun _ => 0) (fun _ => -1) false false)), (3, some (.ob [1] (inR1 g 8 (M + 8)))), (4, some (.ar 4 m pl)), (5, some (.ob [1] (OptR (lb cn 8 0) (inR1 l (cn 0) (l3 l cn p0 0).1)))), (6, some (.ob [1] (OptR (lb cn 8 1) (inR1 l (cn 1) (l3 l cn p0 1).1)))), (7, some (.ob [1] (OptR (lb cn 8 2) (inR1 l (cn 2) (l3 l cn p0 2).1)))), (8, some (.ob [1] (OptR (lb cn 8 3) (inR1 l (cn 3) (l3 l cn p0 3).1)))), (9, some (.ob [1] (OptR (lb cn 8 4) (inR1 l (cn 4) (l3 l cn p0 4).1)))), (10, some (.ob [1] (OptR (lb cn 8 5) (inR1 l (cn 5) (l3 l cn p0 5).1)))), (11, some (.ob [1] (OptR (lb cn 8 6) (inR1 l (cn 6) (l3 l cn p0 6).1)))), (12, some (.ob [1] (OptR (lb cn 8 7) (inR1 l (cn 7) (l3 l cn p0 7).1))))]
def usK (c j : Nat) : List Nat := bif Nat.blt j c then [1] else []
def usR (l : Nat) (cn : Nat -> Nat) (p0 : Nat × (Nat -> Int) × (Nat -> Int)) (c j : Nat) : RelT := bif Nat.blt j c then OptR (lb cn 8 j) (inR1 l (cn j) (l3 l cn p0 j).1) else OptR (lb cn 8 j) (inR0 l (cn j) (l3 l cn p0 j).1)
theorem ZKi (m M g l : Nat) (bu : Int) (cn : Nat -> Nat) (p0 : Nat × (Nat -> Int) × (Nat -> Int)) (pl : Nat -> List Value) (hg : isIn g) (hl : isIn l) :
  ZAH Tryz.prog 272 [(0, some (ZOs m M g l bu cn p0 pl))] 2 [.l (.p 0 0 0 0), .l (.p 1 0 0 0)] fun x h k =>
   x = .t [] /\ k = 2 /\ h = [(0, some (ZEN (ZKh m M g l bu cn p0 pl) 13 1))] := by
 have hug := ZBq g hg 8 (M + 8)
 refine sG (ZAd 0 (h := [(0, some (ZOs m M g l bu cn p0 pl))]) (n := 2) (ks := []) (H := ZPp m M g l bu cn p0 pl) (np := 12) rfl (by decide) rfl rfl rfl) Tryz.func272 ic272_eq [] fun G hP hA => ?_
 unfold evF ic272
 conv => whnf
 refine ZBs hP (ZCD g hg) ?_
 (refine ZAA hP (hug) ?_; (conv => whnf); refine zA ?_; conv => whnf)
 refine ZAn (α := Nat) (ds := []) (N := 13) (fun c => [(20, sInt .i64 (c : Int))]) [] (fun c => [(5, some (.ob (usK c 0) (usR l cn p0 c 0))), (6, some (.ob (usK c 1) (usR l cn p0 c 1))), (7, some (.ob (usK c 2) (usR l cn p0 c 2))), (8, some (.ob (usK c 3) (usR l cn p0 c 3))), (9, some (.ob (usK c 4) (usR l cn p0 c 4))), (10, some (.ob (usK c 5) (usR l cn p0 c 5))), (11, some (.ob (usK c 6) (usR l cn p0 c 6))), (12, some (.ob (usK c 7) (usR l cn p0 c 7)))])
  (fun c => c <= 8) (fun c => 8 - c) 0 (Nat.zero_le _) ?_ fun c hc8 => ?_
 ·conv => whnf
  refine ZAW hA [0, 1, 2, 3, 4, 5, 6, 7, 8, 9, 10, 11, 12] rfl rfl rfl ZAe ?_ rfl
  exact ZAD
 rcases (show c = 0 \/ c = 1 \/ c = 2 \/ c = 3 \/ c = 4 \/ c = 5 \/ c = 6 \/ c = 7 \/ c = 8 by omega) with rfl | rfl | rfl | rfl | rfl | rfl | rfl | rfl | rfl
 ·have hu := ZBq l hl (cn 0) (l3 l cn p0 0).1
  cases hb : lb cn 8 0 with
  | true =>
   conv => whnf
   (refine ZAE ?_; conv => whnf)
   refine ZAg (m := 8) (e := 51) (by rw [hP]; kernel_rfl) (by rw [hP]; kernel_rfl) (by rw [hP]; kernel_rfl) rfl (c := 0) rfl (by decide) rfl ?_
   conv => whnf
   refine ZFn rfl (ZBs hP (ZCD l hl) ?_)
   (refine ZAA hP (hu) ?_; conv => whnf); refine ⟨⟨rfl, rfl, rfl, ?_, rfl, rfl⟩, ?_⟩
   ·exact ⟨⟨rfl, .inr ⟨ZAX _ _ _, fun ls lc F w hh => hh.1 hb⟩⟩, trivial⟩
   conv => whnf
   (repeat' ((first | refine aI ?_ | refine a64 ?_ | refine a32 ?_ | refine a8 ?_); conv => whnf))
   refine ⟨1, by omega, by omega, ?_⟩
   conv => whnf
   refine ZAW hA [0, 1, 2, 3, 4, 5, 6, 7, 8, 9, 10, 11, 12] rfl rfl rfl ZAe ?_ rfl
   exact ⟨⟨rfl, .inr ⟨ZAM (ZAq _ _ _), fun ls lc F w hh => ZBA hb hh⟩⟩, ⟨rfl, .inl rfl⟩, ⟨rfl, .inl rfl⟩, ⟨rfl, .inl rfl⟩, ⟨rfl, .inl rfl⟩, ⟨rfl, .inl rfl⟩, ⟨rfl, .inl rfl⟩, ⟨rfl, .inl rfl⟩, ZAD⟩
  | false =>
   conv => whnf
   (refine ZAE ?_; conv => whnf)
   refine ZAg (m := 8) (e := 51) (by rw [hP]; kernel_rfl) (by rw [hP]; kernel_rfl) (by rw [hP]; kernel_rfl) rfl (c := 0) rfl (by decide) rfl ?_
   conv => whnf
   (repeat' ((first | refine aI ?_ | refine a64 ?_ | refine a32 ?_ | refine a8 ?_); conv => whnf))
   refine ⟨1, by omega, by omega, ?_⟩
   conv => whnf
   refine Imp.trans (ZAj (ZAV.reob 5 [1] (OptR (lb cn 8 0) (inR1 l (cn 0) (l3 l cn p0 0).1)) rfl (fun j hj => by rw [List.mem_singleton.1 hj]; exact Nat.le_of_ble_eq_true rfl) (ZAM (ZAq _ _ _)) (fun ls ls2 lc F w hh => ZDL hb hh))) ?_
   refine ZAW hA [0, 1, 2, 3, 4, 5, 6, 7, 8, 9, 10, 11, 12] rfl rfl rfl ZAe ?_ rfl
   exact ⟨⟨rfl, .inl rfl⟩, ⟨rfl, .inl rfl⟩, ⟨rfl, .inl rfl⟩, ⟨rfl, .inl rfl⟩, ⟨rfl, .inl rfl⟩, ⟨rfl, .inl rfl⟩, ⟨rfl, .inl rfl⟩, ⟨rfl, .inl rfl⟩, ZAD⟩
 ·have hu := ZBq l hl (cn 1) (l3 l cn p0 1).1
  cases hb : lb cn 8 1 with
  | true =>
   conv => whnf
   (refine ZAE ?_; conv => whnf)
   refine ZAg (m := 8) (e := 51) (by rw [hP]; kernel_rfl) (by rw [hP]; kernel_rfl) (by rw [hP]; kernel_rfl) rfl (c := 1) rfl (by decide) rfl ?_
   conv => whnf
   refine ZFn rfl (ZBs hP (ZCD l hl) ?_)
   (refine ZAA hP (hu) ?_; conv => whnf); refine ⟨⟨rfl, rfl, rfl, ?_, rfl, rfl⟩, ?_⟩
   ·exact ⟨⟨rfl, .inr ⟨ZAX _ _ _, fun ls lc F w hh => hh.1 hb⟩⟩, trivial⟩
   conv => whnf
   (repeat' ((first | refine aI ?_ | refine a64 ?_ | refine a32 ?_ | refine a8 ?_); conv => whnf))
   refine ⟨2, by omega, by omega, ?_⟩
   conv => whnf
   refine ZAW hA [0, 1, 2, 3, 4, 5, 6, 7, 8, 9, 10, 11, 12] rfl rfl rfl ZAe ?_ rfl
   exact ⟨⟨rfl, .inl rfl⟩, ⟨rfl, .inr ⟨ZAM (ZAq _ _ _), fun ls lc F w hh => ZBA hb hh⟩⟩, ⟨rfl, .inl rfl⟩, ⟨rfl, .inl rfl⟩, ⟨rfl, .inl rfl⟩, ⟨rfl, .inl rfl⟩, ⟨rfl, .inl rfl⟩, ⟨rfl, .inl rfl⟩, ZAD⟩
  | false =>
   conv => whnf
   (refine ZAE ?_; conv => whnf)
   refine ZAg (m := 8) (e := 51) (by rw [hP]; kernel_rfl) (by rw [hP]; kernel_rfl) (by rw [hP]; kernel_rfl) rfl (c := 1) rfl (by decide) rfl ?_
   conv => whnf
   (repeat' ((first | refine aI ?_ | refine a64 ?_ | refine a32 ?_ | refine a8 ?_); conv => whnf))
   refine ⟨2, by omega, by omega, ?_⟩
   conv => whnf
   refine Imp.trans (ZAj (ZAV.reob 6 [1] (OptR (lb cn 8 1) (inR1 l (cn 1) (l3 l cn p0 1).1)) rfl (fun j hj => by rw [List.mem_singleton.1 hj]; exact Nat.le_of_ble_eq_true rfl) (ZAM (ZAq _ _ _)) (fun ls ls2 lc F w hh => ZDL hb hh))) ?_
   refine ZAW hA [0, 1, 2, 3, 4, 5, 6, 7, 8, 9, 10, 11, 12] rfl rfl rfl ZAe ?_ rfl
   exact ⟨⟨rfl, .inl rfl⟩, ⟨rfl, .inl rfl⟩, ⟨rfl, .inl rfl⟩, ⟨rfl, .inl rfl⟩, ⟨rfl, .inl rfl⟩, ⟨rfl, .inl rfl⟩, ⟨rfl, .inl rfl⟩, ⟨rfl, .inl rfl⟩, ZAD⟩
 ·have hu := ZBq l hl (cn 2) (l3 l cn p0 2).1
  cases hb : lb cn 8 2 with
  | true =>
   conv => whnf
   (refine ZAE ?_; conv => whnf)
   refine ZAg (m := 8) (e := 51) (by rw [hP]; kernel_rfl) (by rw [hP]; kernel_rfl) (by rw [hP]; kernel_rfl) rfl (c := 2) rfl (by decide) rfl ?_
   conv => whnf
   refine ZFn rfl (ZBs hP (ZCD l hl) ?_)
   (refine ZAA hP (hu) ?_; conv => whnf); refine ⟨⟨rfl, rfl, rfl, ?_, rfl, rfl⟩, ?_⟩
   ·exact ⟨⟨rfl, .inr ⟨ZAX _ _ _, fun ls lc F w hh => hh.1 hb⟩⟩, trivial⟩
   conv => whnf
   (repeat' ((first | refine aI ?_ | refine a64 ?_ | refine a32 ?_ | refine a8 ?_); conv => whnf))
   refine ⟨3, by omega, by omega, ?_⟩
   conv => whnf
   refine ZAW hA [0, 1, 2, 3, 4, 5, 6, 7, 8, 9, 10, 11, 12] rfl rfl rfl ZAe ?_ rfl
   exact ⟨⟨rfl, .inl rfl⟩, ⟨rfl, .inl rfl⟩, ⟨rfl, .inr ⟨ZAM (ZAq _ _ _), fun ls lc F w hh => ZBA hb hh⟩⟩, ⟨rfl, .inl rfl⟩, ⟨rfl, .inl rfl⟩, ⟨rfl, .inl rfl⟩, ⟨rfl, .inl rfl⟩, ⟨rfl, .inl rfl⟩, ZAD⟩
  | false =>
   conv => whnf
   (refine ZAE ?_; conv => whnf)
   refine ZAg (m := 8) (e := 51) (by rw [hP]; kernel_rfl) (by rw [hP]; kernel_rfl) (by rw [hP]; kernel_rfl) rfl (c := 2) rfl (by decide) rfl ?_
   conv => whnf
   (repeat' ((first | refine aI ?_ | refine a64 ?_ | refine a32 ?_ | refine a8 ?_); conv => whnf))
   refine ⟨3, by omega, by omega, ?_⟩
   conv => whnf
   refine Imp.trans (ZAj (ZAV.reob 7 [1] (OptR (lb cn 8 2) (inR1 l (cn 2) (l3 l cn p0 2).1)) rfl (fun j hj => by rw [List.mem_singleton.1 hj]; exact Nat.le_of_ble_eq_true rfl) (ZAM (ZAq _ _ _)) (fun ls ls2 lc F w hh => ZDL hb hh))) ?_
   refine ZAW hA [0, 1, 2, 3, 4, 5, 6, 7, 8, 9, 10, 11, 12] rfl rfl rfl ZAe ?_ rfl
   exact ⟨⟨rfl, .inl rfl⟩, ⟨rfl, .inl rfl⟩, ⟨rfl, .inl rfl⟩, ⟨rfl, .inl rfl⟩, ⟨rfl, .inl rfl⟩, ⟨rfl, .inl rfl⟩, ⟨rfl, .inl rfl⟩, ⟨rfl, .inl rfl⟩, ZAD⟩
 ·have hu := ZBq l hl (cn 3) (l3 l cn p0 3).1
  cases hb : lb cn 8 3 with
  | true =>
   conv => whnf
   (refine ZAE ?_; conv => whnf)
   refine ZAg (m := 8) (e := 51) (by rw [hP]; kernel_rfl) (by rw [hP]; kernel_rfl) (by rw [hP]; kernel_rfl) rfl (c := 3) rfl (by decide) rfl ?_
   conv => whnf
   refine ZFn rfl (ZBs hP (ZCD l hl) ?_)
   (refine ZAA hP (hu) ?_; conv => whnf); refine ⟨⟨rfl, rfl, rfl, ?_, rfl, rfl⟩, ?_⟩
   ·exact ⟨⟨rfl, .inr ⟨ZAX _ _ _, fun ls lc F w hh => hh.1 hb⟩⟩, trivial⟩
   conv => whnf
   (repeat' ((first | refine aI ?_ | refine a64 ?_ | refine a32 ?_ | refine a8 ?_); conv => whnf))
   refine ⟨4, by omega, by omega, ?_⟩
   conv => whnf
   refine ZAW hA [0, 1, 2, 3, 4, 5, 6, 7, 8, 9, 10, 11, 12] rfl rfl rfl ZAe ?_ rfl
   exact ⟨⟨rfl, .inl rfl⟩, ⟨rfl, .inl rfl⟩, ⟨rfl, .inl rfl⟩, ⟨rfl, .inr ⟨ZAM (ZAq _ _ _), fun ls lc F w hh => ZBA hb hh⟩⟩, ⟨rfl, .inl rfl⟩, ⟨rfl, .inl rfl⟩, ⟨rfl, .inl rfl⟩, ⟨rfl, .inl rfl⟩, ZAD⟩
  | false =>
   conv => whnf
   (refine ZAE ?_; conv => whnf)
   refine ZAg (m := 8) (e := 51) (by rw [hP]; kernel_rfl) (by rw [hP]; kernel_rfl) (by rw [hP]; kernel_rfl) rfl (c := 3) rfl (by decide) rfl ?_
   conv => whnf
   (repeat' ((first | refine aI ?_ | refine a64 ?_ | refine a32 ?_ | refine a8 ?_); conv => whnf))
   refine ⟨4, by omega, by omega, ?_⟩
   conv => whnf
   refine Imp.trans (ZAj (ZAV.reob 8 [1] (OptR (lb cn 8 3) (inR1 l (cn 3) (l3 l cn p0 3).1)) rfl (fun j hj => by rw [List.mem_singleton.1 hj]; exact Nat.le_of_ble_eq_true rfl) (ZAM (ZAq _ _ _)) (fun ls ls2 lc F w hh => ZDL hb hh))) ?_
   refine ZAW hA [0, 1, 2, 3, 4, 5, 6, 7, 8, 9, 10, 11, 12] rfl rfl rfl ZAe ?_ rfl
   exact ⟨⟨rfl, .inl rfl⟩, ⟨rfl, .inl rfl⟩, ⟨rfl, .inl rfl⟩, ⟨rfl, .inl rfl⟩, ⟨rfl, .inl rfl⟩, ⟨rfl, .inl rfl⟩, ⟨rfl, .inl rfl⟩, ⟨rfl, .inl rfl⟩, ZAD⟩
 ·have hu := ZBq l hl (cn 4) (l3 l cn p0 4).1
  cases hb : lb cn 8 4 with
  | true =>
   conv => whnf
   (refine ZAE ?_; conv => whnf)
   refine ZAg (m := 8) (e := 51) (by rw [hP]; kernel_rfl) (by rw [hP]; kernel_rfl) (by rw [hP]; kernel_rfl) rfl (c := 4) rfl (by decide) rfl ?_
   conv => whnf
   refine ZFn rfl (ZBs hP (ZCD l hl) ?_)
   (refine ZAA hP (hu) ?_; conv => whnf); refine ⟨⟨rfl, rfl, rfl, ?_, rfl, rfl⟩, ?_⟩
   ·exact ⟨⟨rfl, .inr ⟨ZAX _ _ _, fun ls lc F w hh => hh.1 hb⟩⟩, trivial⟩
   conv => whnf
   (repeat' ((first | refine aI ?_ | refine a64 ?_ | refine a32 ?_ | refine a8 ?_); conv => whnf))
   refine ⟨5, by omega, by omega, ?_⟩
   conv => whnf
   refine ZAW hA [0, 1, 2, 3, 4, 5, 6, 7, 8, 9, 10, 11, 12] rfl rfl rfl ZAe ?_ rfl
   exact ⟨⟨rfl, .inl rfl⟩, ⟨rfl, .inl rfl⟩, ⟨rfl, .inl rfl⟩, ⟨rfl, .inl rfl⟩, ⟨rfl, .inr ⟨ZAM (ZAq _ _ _), fun ls lc F w hh => ZBA hb hh⟩⟩, ⟨rfl, .inl rfl⟩, ⟨rfl, .inl rfl⟩, ⟨rfl, .inl rfl⟩, ZAD⟩
  | false =>
   conv => whnf
   (refine ZAE ?_; conv => whnf)
   refine ZAg (m := 8) (e := 51) (by rw [hP]; kernel_rfl) (by rw [hP]; kernel_rfl) (by rw [hP]; kernel_rfl) rfl (c := 4) rfl (by decide) rfl ?_
   conv => whnf
   (repeat' ((first | refine aI ?_ | refine a64 ?_ | refine a32 ?_ | refine a8 ?_); conv => whnf))
   refine ⟨5, by omega, by omega, ?_⟩
   conv => whnf
   refine Imp.trans (ZAj (ZAV.reob 9 [1] (OptR (lb cn 8 4) (inR1 l (cn 4) (l3 l cn p0 4).1)) rfl (fun j hj => by rw [List.mem_singleton.1 hj]; exact Nat.le_of_ble_eq_true rfl) (ZAM (ZAq _ _ _)) (fun ls ls2 lc F w hh => ZDL hb hh))) ?_
   refine ZAW hA [0, 1, 2, 3, 4, 5, 6, 7, 8, 9, 10, 11, 12] rfl rfl rfl ZAe ?_ rfl
   exact ⟨⟨rfl, .inl rfl⟩, ⟨rfl, .inl rfl⟩, ⟨rfl, .inl rfl⟩, ⟨rfl, .inl rfl⟩, ⟨rfl, .inl rfl⟩, ⟨rfl, .inl rfl⟩, ⟨rfl, .inl rfl⟩, ⟨rfl, .inl rfl⟩, ZAD⟩
 ·have hu := ZBq l hl (cn 5) (l3 l cn p0 5).1
  cases hb : lb cn 8 5 with
  | true =>
   conv => whnf
   (refine ZAE ?_; conv => whnf)
   refine ZAg (m := 8) (e := 51) (by rw [hP]; kernel_rfl) (by rw [hP]; kernel_rfl) (by rw [hP]; kernel_rfl) rfl (c := 5) rfl (by decide) rfl ?_
   conv => whnf
   refine ZFn rfl (ZBs hP (ZCD l hl) ?_)
   (refine ZAA hP (hu) ?_; conv => whnf); refine ⟨⟨rfl, rfl, rfl, ?_, rfl, rfl⟩, ?_⟩
   ·exact ⟨⟨rfl, .inr ⟨ZAX _ _ _, fun ls lc F w hh => hh.1 hb⟩⟩, trivial⟩
   conv => whnf
   (repeat' ((first | refine aI ?_ | refine a64 ?_ | refine a32 ?_ | refine a8 ?_); conv => whnf))
   refine ⟨6, by omega, by omega, ?_⟩
   conv => whnf
   refine ZAW hA [0, 1, 2, 3, 4, 5, 6, 7, 8, 9, 10, 11, 12] rfl rfl rfl ZAe ?_ rfl
   exact ⟨⟨rfl, .inl rfl⟩, ⟨rfl, .inl rfl⟩, ⟨rfl, .inl rfl⟩, ⟨rfl, .inl rfl⟩, ⟨rfl, .inl rfl⟩, ⟨rfl, .inr ⟨ZAM (ZAq _ _ _), fun ls lc F w hh => ZBA hb hh⟩⟩, ⟨rfl, .inl rfl⟩, ⟨rfl, .inl rfl⟩, ZAD⟩
  | false =>
   conv => whnf
   (refine ZAE ?_; conv => whnf)
   refine ZAg (m := 8) (e := 51) (by rw [hP]; kernel_rfl) (by rw [hP]; kernel_rfl) (by rw [hP]; kernel_rfl) rfl (c := 5) rfl (by decide) rfl ?_
   conv => whnf
   (repeat' ((first | refine aI ?_ | refine a64 ?_ | refine a32 ?_ | refine a8 ?_); conv => whnf))
   refine ⟨6, by omega, by omega, ?_⟩
   conv => whnf
   refine Imp.trans (ZAj (ZAV.reob 10 [1] (OptR (lb cn 8 5) (inR1 l (cn 5) (l3 l cn p0 5).1)) rfl (fun j hj => by rw [List.mem_singleton.1 hj]; exact Nat.le_of_ble_eq_true rfl) (ZAM (ZAq _ _ _)) (fun ls ls2 lc F w hh => ZDL hb hh))) ?_
   refine ZAW hA [0, 1, 2, 3, 4, 5, 6, 7, 8, 9, 10, 11, 12] rfl rfl rfl ZAe ?_ rfl
   exact ⟨⟨rfl, .inl rfl⟩, ⟨rfl, .inl rfl⟩, ⟨rfl, .inl rfl⟩, ⟨rfl, .inl rfl⟩, ⟨rfl, .inl rfl⟩, ⟨rfl, .inl rfl⟩, ⟨rfl, .inl rfl⟩, ⟨rfl, .inl rfl⟩, ZAD⟩
 ·have hu := ZBq l hl (cn 6) (l3 l cn p0 6).1
  cases hb : lb cn 8 6 with
  | true =>
   conv => whnf
   (refine ZAE ?_; conv => whnf)
   refine ZAg (m := 8) (e := 51) (by rw [hP]; kernel_rfl) (by rw [hP]; kernel_rfl) (by rw [hP]; kernel_rfl) rfl (c := 6) rfl (by decide) rfl ?_
   conv => whnf
   refine ZFn rfl (ZBs hP (ZCD l hl) ?_)
   (refine ZAA hP (hu) ?_; conv => whnf); refine ⟨⟨rfl, rfl, rfl, ?_, rfl, rfl⟩, ?_⟩
   ·exact ⟨⟨rfl, .inr ⟨ZAX _ _ _, fun ls lc F w hh => hh.1 hb⟩⟩, trivial⟩
   conv => whnf
   (repeat' ((first | refine aI ?_ | refine a64 ?_ | refine a32 ?_ | refine a8 ?_); conv => whnf))
   refine ⟨7, by omega, by omega, ?_⟩
   conv => whnf
   refine ZAW hA [0, 1, 2, 3, 4, 5, 6, 7, 8, 9, 10, 11, 12] rfl rfl rfl ZAe ?_ rfl
   exact ⟨⟨rfl, .inl rfl⟩, ⟨rfl, .inl rfl⟩, ⟨rfl, .inl rfl⟩, ⟨rfl, .inl rfl⟩, ⟨rfl, .inl rfl⟩, ⟨rfl, .inl rfl⟩, ⟨rfl, .inr ⟨ZAM (ZAq _ _ _), fun ls lc F w hh => ZBA hb hh⟩⟩, ⟨rfl, .inl rfl⟩, ZAD⟩
  | false =>
   conv => whnf
   (refine ZAE ?_; conv => whnf)
   refine ZAg (m := 8) (e := 51) (by rw [hP]; kernel_rfl) (by rw [hP]; kernel_rfl) (by rw [hP]; kernel_rfl) rfl (c := 6) rfl (by decide) rfl ?_
   conv => whnf
   (repeat' ((first | refine aI ?_ | refine a64 ?_ | refine a32 ?_ | refine a8 ?_); conv => whnf))
   refine ⟨7, by omega, by omega, ?_⟩
   conv => whnf
   refine Imp.trans (ZAj (ZAV.reob 11 [1] (OptR (lb cn 8 6) (inR1 l (cn 6) (l3 l cn p0 6).1)) rfl (fun j hj => by rw [List.mem_singleton.1 hj]; exact Nat.le_of_ble_eq_true rfl) (ZAM (ZAq _ _ _)) (fun ls ls2 lc F w hh => ZDL hb hh))) ?_
   refine ZAW hA [0, 1, 2, 3, 4, 5, 6, 7, 8, 9, 10, 11, 12] rfl rfl rfl ZAe ?_ rfl
   exact ⟨⟨rfl, .inl rfl⟩, ⟨rfl, .inl rfl⟩, ⟨rfl, .inl rfl⟩, ⟨rfl, .inl rfl⟩, ⟨rfl, .inl rfl⟩, ⟨rfl, .inl rfl⟩, ⟨rfl, .inl rfl⟩, ⟨rfl, .inl rfl⟩, ZAD⟩
 ·have hu := ZBq l hl (cn 7) (l3 l cn p0 7).1
  cases hb : lb cn 8 7 with
  | true =>
   conv => whnf
   (refine ZAE ?_; conv => whnf)
   refine ZAg (m := 8) (e := 51) (by rw [hP]; kernel_rfl) (by rw [hP]; kernel_rfl) (by rw [hP]; kernel_rfl) rfl (c := 7) rfl (by decide) rfl ?_
   conv => whnf
   refine ZFn rfl (ZBs hP (ZCD l hl) ?_)
   (refine ZAA hP (hu) ?_; conv => whnf); refine ⟨⟨rfl, rfl, rfl, ?_, rfl, rfl⟩, ?_⟩
   ·exact ⟨⟨rfl, .inr ⟨ZAX _ _ _, fun ls lc F w hh => hh.1 hb⟩⟩, trivial⟩
   conv => whnf
   (repeat' ((first | refine aI ?_ | refine a64 ?_ | refine a32 ?_ | refine a8 ?_); conv => whnf))
   refine ⟨8, by omega, by omega, ?_⟩
   conv => whnf
   refine ZAW hA [0, 1, 2, 3, 4, 5, 6, 7, 8, 9, 10, 11, 12] rfl rfl rfl ZAe ?_ rfl
   exact ⟨⟨rfl, .inl rfl⟩, ⟨rfl, .inl rfl⟩, ⟨rfl, .inl rfl⟩, ⟨rfl, .inl rfl⟩, ⟨rfl, .inl rfl⟩, ⟨rfl, .inl rfl⟩, ⟨rfl, .inl rfl⟩, ⟨rfl, .inr ⟨ZAM (ZAq _ _ _), fun ls lc F w hh => ZBA hb hh⟩⟩, ZAD⟩
  | false =>
   conv => whnf
   (refine ZAE ?_; conv => whnf)
   refine ZAg (m := 8) (e := 51) (by rw [hP]; kernel_rfl) (by rw [hP]; kernel_rfl) (by rw [hP]; kernel_rfl) rfl (c := 7) rfl (by decide) rfl ?_
   conv => whnf
   (repeat' ((first | refine aI ?_ | refine a64 ?_ | refine a32 ?_ | refine a8 ?_); conv => whnf))
   refine ⟨8, by omega, by omega, ?_⟩
   conv => whnf
   refine Imp.trans (ZAj (ZAV.reob 12 [1] (OptR (lb cn 8 7) (inR1 l (cn 7) (l3 l cn p0 7).1)) rfl (fun j hj => by rw [List.mem_singleton.1 hj]; exact Nat.le_of_ble_eq_true rfl) (ZAM (ZAq _ _ _)) (fun ls ls2 lc F w hh => ZDL hb hh))) ?_
   refine ZAW hA [0, 1, 2, 3, 4, 5, 6, 7, 8, 9, 10, 11, 12] rfl rfl rfl ZAe ?_ rfl
   exact ⟨⟨rfl, .inl rfl⟩, ⟨rfl, .inl rfl⟩, ⟨rfl, .inl rfl⟩, ⟨rfl, .inl rfl⟩, ⟨rfl, .inl rfl⟩, ⟨rfl, .inl rfl⟩, ⟨rfl, .inl rfl⟩, ⟨rfl, .inl rfl⟩, ZAD⟩
 ·conv => whnf
  refine ZBF (ZCW [0, 1, 2, 3, 4, 5, 6, 7, 8, 9, 10, 11, 12] (H := ZKh m M g l bu cn p0 pl) (np := 13) 1 rfl (by decide) rfl rfl ?_ rfl) (Nat.le_of_ble_eq_true rfl) ?_
  ·exact ZAD
  ·(refine ZAC ?_; conv => whnf); exact zF
theorem ZID (v : Value) (args : Array Value) (w : World) : (callMethod (.iface 239 v) "Use" args).run Tryz.prog w = .ok (.enter 272 (#[v] ++ args)) w := by kernel_rfl
theorem ZJW {k m M : Nat} {hs h : Nat -> Int} (hk : isIn k) (hm : 1 <= m) (hf : ∀ j, j < M -> badH (hs j) = false) (hb : ∀ i, i < m -> badH (h i) = false) (j : Nat) (hj : j < M + inN k m) : badH (inHs k hs M h m j) = false := by
 rcases hk with rfl | rfl | rfl
 ·exact ZBT (Q := fun x => badH x = false) (fun j hj => ZBT (Q := fun x => badH x = false) hf (hb 0 hm) j) (hb 0 hm) j
 ·exact ZDe (Q := fun x => badH x = false) (m := M + 2) (fun j hj => ZBT (Q := fun x => badH x = false) (fun j hj => ZBT (Q := fun x => badH x = false) hf (hb 0 hm) j) (hb 0 hm) j) m hb j (by simp only [inN] at hj; omega)
 ·exact ZFv (Q := fun x => badH x = false) (q := 2) (m := M + 1) (fun j hj => ZBT (Q := fun x => badH x = false) hf (hb 0 hm) j) m hb j (by simp only [inN] at hj; omega)
theorem ZNi {l : Nat} {cn : Nat -> Nat} {p0 : Nat × (Nat -> Int) × (Nat -> Int)} (hl : isIn l) (hp : ∀ j, j < p0.1 -> badH (p0.2.1 j) = false) : ∀ i, i <= 8 -> ∀ j, j < (l3 l cn p0 i).1 -> badH ((l3 l cn p0 i).2.1 j) = false
 | 0, _ => hp
 | i + 1, hi => by
  have ih := ZNi (cn := cn) hl hp i (by omega)
  cases h : Nat.blt 0 (cn i) with
  | true =>
   rw [ZES h]
   exact ZJW hl (Nat.le_of_ble_eq_true h) ih fun _ _ => by unfold badH; simp; omega
  | false => rw [ZG4 h]; exact ih
theorem ZPq (g : Nat) (hs ws : Nat -> Int) (hg : isIn g) (j : Nat) (hj : j < (p0F 0 g hs ws).1) : badH ((p0F 0 g hs ws).2.1 j) = false := by
 refine ZJW hg (by omega) (fun j hj => ?_) (fun i hi => by unfold badH; simp; omega) j hj
 refine ZDe (Q := fun x => badH x = false) (m := 0) (fun j hj => absurd hj (Nat.not_lt_zero j)) 8 (fun i hi => by unfold badH; simp; omega) j hj
def cohN (m g l : Nat) (h : Nat -> Int) : Nat := (l3 l (cnt h m) (p0F 0 g (fun _ => 0) fun _ => 0) 8).1
def ZNj (m g l : Nat) (h : Nat -> Int) : Nat -> Int := (l3 l (cnt h m) (p0F 0 g (fun _ => 0) fun _ => 0) 8).2.1
def ZNk (m g l : Nat) (h : Nat -> Int) : Nat -> Int := (l3 l (cnt h m) (p0F 0 g (fun _ => 0) fun _ => 0) 8).2.2
theorem ZNl (m g l : Nat) (h : Nat -> Int) (hm : m <= 64) : cohN m g l h <= 1066 := by
 have h1 := ZGV (l := l) (p0 := p0F 0 g (fun _ => 0) fun _ => 0) (cn := cnt h m) (fun j => Nat.le_trans (ZHO h m j) hm) 8
 have h2 := ZLQ g 8
 have h3 : (p0F 0 g (fun _ => 0) fun _ => 0).1 = 0 + 8 + inN g 8 := rfl
 unfold cohN
 omega
theorem ZPr (th : Int) (h : Nat -> Int) (m g l : Nat) (start slots pool budget : Int) (hm : 1 <= m /\ m <= 64) (hb : anyZ badH h m = false) (hg : g = 1 \/ g = 4) (hl : isIn l) (hbu : 1 <= budget /\ budget <= 1000) :
  ZAH Tryz.prog 64 [(0, some (ZBI th 0 (fun _ => 0) fun _ => 0)), (1, some (.ro 1 m (numE h)))] 2 [.l (.p 0 0 0 0), ZB8 7 1 m start slots pool budget g l] fun x h' k =>
   x = .t [.l (.i 239 2), .l (.v (.int .i64 0))] /\ k = 3 /\ h' = [(0, some (ZBI th (cohN m g l h) (ZNj m g l h) (ZNk m g l h))), (2, some (ZOs m 0 g l budget (cnt h m) (p0F 0 g (fun _ => 0) fun _ => 0) (ZCe h m)))] := by
 have hcn := ZNh th 0 (fun _ => 0) (fun _ => 0) h m g l budget (by omega) hm hb hg hl hbu
 refine sE Tryz.func64 ic64_eq [.t 4, .t 5] fun G hP hA => ?_
 unfold evF ic64
 conv => whnf
 (refine ZAA hP (hcn) ?_; (conv => whnf); refine zA ?_; conv => whnf)
 (refine ZAC ?_; conv => whnf); exact zF
theorem ZJX (h : Nat -> Int) (m g l : Nat) (start slots pool budget : Int) (hm : 1 <= m /\ m <= 64) (hb : anyZ badH h m = false) (hg : g = 1 \/ g = 4) (hl : isIn l) (hbu : 1 <= budget /\ budget <= 1000) :
  ZAH Tryz.prog 33 [(0, some (.ro 1 m (numE h)))] 1 [ZB8 7 0 m start slots pool budget g l] fun x h' k =>
   x = .t [.l (.i 239 1), .l (.p 2 0 0 0), .l (.v (.int .i64 0))] /\ k = 3 /\ h' = [(1, some (.ob [2] (ZAs (ZKh m 0 g l budget (cnt h m) (p0F 0 g (fun _ => 0) fun _ => 0) (ZCe h m)) 13))),
    (2, some (ZBg m (cohN m g l h) (cutF (ZNk m g l h) (cohN m g l h)) (ZNj m g l h) (fun _ => 0) (fun _ => 0) (fun _ => 0) fun _ => 0))] := by
 have hgi : isIn g := by unfold isIn; omega
 have hpn := ZBf (m : Int) (fun _ => 0) fun _ => 0
 have hly := ZPr (m : Int) h m g l start slots pool budget hm hb hg hl hbu
 have hpp := ZBy m (cohN m g l h) (ZNj m g l h) (ZNk m g l h) hm (Nat.le_trans (ZNl m g l h hm.2) (by decide)) (ZAy.2 (ZNi hl (ZPq g _ _ hgi) 8 (Nat.le_refl 8)))
 have hu := ZKi m 0 g l budget (cnt h m) (p0F 0 g (fun _ => 0) fun _ => 0) (ZCe h m) hgi hl
 refine sE Tryz.func33 ic33_eq [.t 2, .t 3, .t 4] fun G hP hA => ?_
 unfold evF ic33
 conv => whnf
 (repeat' ((first | refine aI ?_ | refine a64 ?_ | refine a32 ?_ | refine a8 ?_); conv => whnf))
 (refine ZAA hP (hpn) ?_; (conv => whnf); refine zA ?_; conv => whnf)
 (refine ZAA hP (hly) ?_; (conv => whnf); refine zA ?_; conv => whnf)
 (refine ZAA hP (hpp) ?_; (conv => whnf); refine zA ?_; conv => whnf)
 refine ZBs hP ZID ?_
 (refine ZAA hP (hu) ?_; (conv => whnf); refine zA ?_; conv => whnf)
 (refine ZAC ?_; conv => whnf); exact zF
structure CK where
 M : Nat
 bu : Int
 cn : Nat -> Nat
 no : Nat -> Nat
 inn : Nat -> Int
 gT : Nat
 lT : Nat
structure CO where
 ss : SS
 td : Nat -> Nat
 pa : Nat -> Int
 g : K1
 lo : Nat -> K1
def CK.b (K : CK) (c : Nat) : Bool := lb K.cn 8 c
def tdV : Nat -> Value
 | 0 => .nilFunc
 | f + 1 => .func (.func (f + 1)) #[] #[]
def plE (no : Nat -> Nat) (inn : Nat -> Int) (td : Nat -> Nat) (pa : Nat -> Int) : Nat -> List Value := fun t => [.int .i64 (no t : Int), .int .i64 (inn t), tdV (td t), .int .u32 (pa t)]
def updN (f : Nat -> Nat) (i : Nat) (v : Nat) : Nat -> Nat := fun j => if j = i then v else f j
def updK (f : Nat -> K1) (i : Nat) (v : K1) : Nat -> K1 := fun j => if j = i then v else f j
def loE (K : CK) (lo : Nat -> K1) (c j : Nat) : Ent := match Nat.beq j c with | true => .ob [1] ((lo j).R (K.cn j)) | false => .ob [1] (OptR (K.b j) ((lo j).R (K.cn j)))
def ioC (K : CK) (c j : Nat) : LV := match Nat.beq j c with | true => .i K.lT (5 + j) | false => .io (K.b j) K.lT (5 + j)
def ZRA (K : CK) (m c : Nat) : List LV := [.p 2 0 0 0, .p 1 0 0 0, .v (.int .i64 K.M), .v (.int .u32 K.bu), .i K.gT 3, ioC K c 0, ioC K c 1, ioC K c 2, ioC K c 3, ioC K c 4, ioC K c 5, ioC K c 6, ioC K c 7, .s 4 4 0 m 0]
def ZFq (K : CK) (m c : Nat) (L : CO) : Heap :=
 [(0, some (.st (ZRA K m c))), (2, some (ZBe m L.ss.st L.ss.dl false false)), (3, some (.ob [1] (L.g.R 8))), (4, some (.ar 4 m (plE K.no K.inn L.td L.pa))), (5, some (loE K L.lo c 0)), (6, some (loE K L.lo c 1)), (7, some (loE K L.lo c 2)), (8, some (loE K L.lo c 3)), (9, some (loE K L.lo c 4)), (10, some (loE K L.lo c 5)), (11, some (loE K L.lo c 6)), (12, some (loE K L.lo c 7))]
def cohG (K : CK) (m nt nw c : Nat) (hs : Nat -> Int) (L : CO) (s : PS) : Heap := (1, some (ZBO nt nw hs s)) :: ZFq K m c L
theorem ZF6 (no : Nat -> Nat) (inn : Nat -> Int) (td : Nat -> Nat) (pa : Nat -> Int) (i f : Nat) (j : Nat) : mrgL (j = i) (ZAL (plE no inn td pa j) 2 [tdV f]) (plE no inn td pa j) = plE no inn (updN td i f) pa j := by
 rw [ZFT _ _ _ (by rw [ZBD])]
 simp only [plE, updN, ZAL, setL]
 by_cases h : j = i <;> simp [h]
theorem ZEz (no : Nat -> Nat) (inn : Nat -> Int) (td : Nat -> Nat) (pa : Nat -> Int) (i : Nat) (v : Int) (j : Nat) : mrgL (j = i) (ZAL (plE no inn td pa j) 3 [.int .u32 v]) (plE no inn td pa j) = plE no inn td (updF pa i v) j := by
 rw [ZFT _ _ _ (by rw [ZBD])]
 simp only [plE, updF, ZAL, setL]
 by_cases h : j = i <;> simp [h]
theorem ZE0 (f : Nat -> Nat) (i u v : Nat) : updN (updN f i u) i v = updN f i v := by
 funext j
 simp only [updN]
 by_cases h : j = i <;> simp [h]
theorem ZDx {P : Program} {G : Ctx} {f : FuncId} {pre : Heap} {np : Nat} {args : List AV} {X : SV} {M : Nat} {H : Heap} {xs : List AV} {h : Heap} {n : Nat} {K : SV -> Heap -> Nat -> Prop} (hP : G.P = P) (hsp : ZAH P f pre np args fun x h m => x = X /\ m = M /\ h = H) (l : List Nat)
  (h1 : l.length = np) (h2 : l.all (fun j => decide (j < n)) = true) (h3 : xs = args.map (AV.ren (ren1 l n))) (h4 : ZBS (ren1 l n) h pre) (h5 : ZBv (ren1 l n) pre = true) (h6 : ZEo (ren2 l n) M H = true) (h7 : K (X.ren (ren2 l n)) (renH (ren2 l n) H ++ tomb (ren1 l n) pre) (n + (M - np))) : CallP G f xs h n K := by
 subst hP
 exact ZF3 hsp l h1 h2 h3 h4 h5 h6 h7
theorem ZA2 (no : Nat -> Nat) (inn : Nat -> Int) (td : Nat -> Nat) (pa : Nat -> Int) (i : Nat) (j : Nat) : mrgL (j = i) (ZAL (plE no inn td pa j) 2 [Value.func (Fn.func 275) #[] #[]]) (plE no inn td pa j) = plE no inn (updN td i 275) pa j := ZF6 no inn td pa i 275 j
theorem ZBK (no : Nat -> Nat) (inn : Nat -> Int) (td : Nat -> Nat) (pa : Nat -> Int) (i : Nat) (j : Nat) : mrgL (j = i) (ZAL (plE no inn td pa j) 2 [Value.func (Fn.func 278) #[] #[]]) (plE no inn td pa j) = plE no inn (updN td i 278) pa j := ZF6 no inn td pa i 278 j
theorem ZBL (no : Nat -> Nat) (inn : Nat -> Int) (td : Nat -> Nat) (pa : Nat -> Int) (i : Nat) (j : Nat) : mrgL (j = i) (ZAL (plE no inn td pa j) 2 [Value.func (Fn.func 281) #[] #[]]) (plE no inn td pa j) = plE no inn (updN td i 281) pa j := ZF6 no inn td pa i 281 j
theorem ZA3 (no : Nat -> Nat) (inn : Nat -> Int) (td : Nat -> Nat) (pa : Nat -> Int) (i : Nat) (j : Nat) : mrgL (j = i) (ZAL (plE no inn td pa j) 2 [Value.func (Fn.func 283) #[] #[]]) (plE no inn td pa j) = plE no inn (updN td i 283) pa j := ZF6 no inn td pa i 283 j
theorem ZA4 (no : Nat -> Nat) (inn : Nat -> Int) (td : Nat -> Nat) (pa : Nat -> Int) (i : Nat) (j : Nat) : mrgL (j = i) (ZAL (plE no inn td pa j) 2 [Value.func (Fn.func 274) #[] #[]]) (plE no inn td pa j) = plE no inn (updN td i 274) pa j := ZF6 no inn td pa i 274 j
theorem ZA5 (no : Nat -> Nat) (inn : Nat -> Int) (td : Nat -> Nat) (pa : Nat -> Int) (i : Nat) (j : Nat) : mrgL (j = i) (ZAL (plE no inn td pa j) 2 [Value.func (Fn.func 277) #[] #[]]) (plE no inn td pa j) = plE no inn (updN td i 277) pa j := ZF6 no inn td pa i 277 j
theorem ZBM (no : Nat -> Nat) (inn : Nat -> Int) (td : Nat -> Nat) (pa : Nat -> Int) (i : Nat) (j : Nat) : mrgL (j = i) (ZAL (plE no inn td pa j) 2 [Value.func (Fn.func 280) #[] #[]]) (plE no inn td pa j) = plE no inn (updN td i 280) pa j := ZF6 no inn td pa i 280 j
theorem ZAw (no : Nat -> Nat) (inn : Nat -> Int) (td : Nat -> Nat) (pa : Nat -> Int) (i : Nat) (j : Nat) : mrgL (j = i) (ZAL (plE no inn td pa j) 2 [Value.func (Fn.func 276) #[] #[]]) (plE no inn td pa j) = plE no inn (updN td i 276) pa j := ZF6 no inn td pa i 276 j
theorem ZA6 (no : Nat -> Nat) (inn : Nat -> Int) (td : Nat -> Nat) (pa : Nat -> Int) (i : Nat) (j : Nat) : mrgL (j = i) (ZAL (plE no inn td pa j) 2 [Value.func (Fn.func 279) #[] #[]]) (plE no inn td pa j) = plE no inn (updN td i 279) pa j := ZF6 no inn td pa i 279 j
theorem ZBc (no : Nat -> Nat) (inn : Nat -> Int) (td : Nat -> Nat) (pa : Nat -> Int) (i : Nat) (j : Nat) : mrgL (j = i) (ZAL (plE no inn td pa j) 2 [Value.func (Fn.func 284) #[] #[]]) (plE no inn td pa j) = plE no inn (updN td i 284) pa j := ZF6 no inn td pa i 284 j
theorem ZBd (no : Nat -> Nat) (inn : Nat -> Int) (td : Nat -> Nat) (pa : Nat -> Int) (i : Nat) (j : Nat) : mrgL (j = i) (ZAL (plE no inn td pa j) 2 [Value.nilFunc]) (plE no inn td pa j) = plE no inn (updN td i 0) pa j := ZF6 no inn td pa i 0 j
structure CoL (K : CK) (t : Nat) (lo : Nat -> K1) : Prop where
 c : K.no t < 8
 b : K.b (K.no t) = true
 cn : K.cn (K.no t) <= 64
 ok : (lo (K.no t)).ok (K.cn (K.no t))
 T : (lo (K.no t)).T = K.lT
structure CoG (K : CK) (g : K1) : Prop where
 ok : g.ok 8
 T : g.T = K.gT
def k1Lk (n : Nat) (S : K1) (t : Int) : K1 := S.set (lkSt n S.ss.st S.tm t (-1)) (lkDl n S.ss.st S.ss.dl S.tm t (-1))
def k1Ul (n : Nat) (S : K1) (t : Int) : K1 := S.set (ulSt n S.ss.st t 3) S.ss.dl
def k1Pr (n : Nat) (S : K1) (t : Int) : K1 := S.set (prSt n S.ss.st S.pr t) S.ss.dl
def coA (K : CK) (t : Nat) : Int := (K.M : Int) + (K.no t : Int)
def ZF7 (K : CK) (t : Nat) (L : CO) : CO := pick (decide (L.ss.st t = 3)) ⟨L.ss, updN L.td t 274, L.pa, L.g, L.lo⟩ ⟨L.ss, updN L.td t 275, L.pa, L.g, updK L.lo (K.no t) (k1Lk (K.cn (K.no t)) (L.lo (K.no t)) (K.inn t))⟩
def coLs (K : CK) (nw : Nat) (t ta : Nat) (now : Int) (L : CO) (s : PS) : Dd × K1 × PS := (L.lo (K.no t)).step (K.cn (K.no t)) nw (K.inn t) now ta s
def coGs (K : CK) (nw : Nat) (t ta : Nat) (now : Int) (L : CO) (s : PS) : Dd × K1 × PS := L.g.step 8 nw (K.no t : Int) now ta s
def ZF8 (K : CK) (t : Nat) (L : CO) (r : Dd × K1 × PS) : Dd × CO × PS := (⟨0, r.1.q, false, false⟩, ⟨L.ss, pick (decide (r.1.e = 1)) (updN L.td t 278) L.td, L.pa, L.g, updK L.lo (K.no t) r.2.1⟩, r.2.2)
def ZHF (K : CK) (nw t ta : Nat) (L : CO) (s : PS) : Dd × CO × PS :=
 pick (decide (rdV nw (coA K t) s = 0)) (evD 0, ⟨L.ss, updN L.td t 281, L.pa, k1Lk 8 L.g (K.no t : Int), L.lo⟩, rdS nw ta (coA K t) s) (evD 1, L, rdS nw ta (coA K t) s)
def ZIz (t : Nat) (L : CO) (r : Dd × K1 × PS) : Dd × CO × PS := (⟨0, false, r.1.q, false⟩, ⟨L.ss, pick (decide (r.1.e = 1)) (updN L.td t 283) L.td, L.pa, r.2.1, L.lo⟩, r.2.2)
def ZF9 (K : CK) (nw t ta : Nat) (L : CO) (s : PS) : Dd × CO × PS := (⟨1, false, false, true⟩, L, wtS nw ta (coA K t) 1 s)
def ZFN (K : CK) (nw t ta : Nat) (L : CO) (s : PS) : Dd × CO × PS :=
 (evD 0, pick (decide (rdV nw (coA K t) s < K.bu)) ⟨L.ss, updN L.td t 277, updF L.pa t (rdV nw (coA K t) s), L.g, updK L.lo (K.no t) (k1Pr (K.cn (K.no t)) (L.lo (K.no t)) (K.inn t))⟩ ⟨L.ss, updN L.td t 276, updF L.pa t (rdV nw (coA K t) s), L.g, L.lo⟩, rdS nw ta (coA K t) s)
def ZGA (K : CK) (t : Nat) (L : CO) (r : Dd × K1 × PS) : Dd × CO × PS := (evD 0, ⟨L.ss, updN L.td t (pick (decide (r.1.e = 5)) 280 276), L.pa, L.g, updK L.lo (K.no t) r.2.1⟩, r.2.2)
def ZHG (K : CK) (t : Nat) (L : CO) : CO := ⟨L.ss, updN L.td t 284, L.pa, L.g, updK L.lo (K.no t) (k1Ul (K.cn (K.no t)) (L.lo (K.no t)) (K.inn t))⟩
def ZI0 (K : CK) (nw t ta : Nat) (L : CO) (s : PS) : Dd × CO × PS := (evD 0, ZHG K t L, wtS nw ta (coA K t) (u32p (L.pa t)) s)
def ZE1 (K : CK) (nw t ta : Nat) (L : CO) (s : PS) : Dd × CO × PS := (evD 0, ⟨L.ss, updN L.td t 279, L.pa, k1Ul 8 L.g (K.no t : Int), L.lo⟩, wtS nw ta (coA K t) 0 s)
def ZFO (K : CK) (t : Nat) (L : CO) (r : Dd × K1 × PS) : Dd × CO × PS := (evD 0, pick (decide (r.1.e = 3)) (ZHG K t ⟨L.ss, L.td, L.pa, r.2.1, L.lo⟩) ⟨L.ss, L.td, L.pa, r.2.1, L.lo⟩, r.2.2)
def ZNQ (K : CK) (t : Nat) (L : CO) (r : Dd × K1 × PS) : Dd × CO × PS := (evD r.1.e, ⟨L.ss, L.td, L.pa, L.g, updK L.lo (K.no t) r.2.1⟩, r.2.2)
def ZKG (K : CK) (nw : Nat) (t ta : Nat) (now : Int) (L : CO) (s : PS) : Dd × CO × PS :=
 pick (decide (L.td t = 275)) (ZF8 K t L (coLs K nw t ta now L s)) (pick (decide (L.td t = 278)) (ZHF K nw t ta L s) (pick (decide (L.td t = 281)) (ZIz t L (coGs K nw t ta now L s))
 (pick (decide (L.td t = 283)) (ZF9 K nw t ta L s) (pick (decide (L.td t = 274)) (ZFN K nw t ta L s) (pick (decide (L.td t = 277)) (ZGA K t L (coLs K nw t ta now L s))
 (pick (decide (L.td t = 280)) (ZI0 K nw t ta L s) (pick (decide (L.td t = 276)) (ZE1 K nw t ta L s) (pick (decide (L.td t = 279)) (ZFO K t L (coGs K nw t ta now L s)) (ZNQ K t L (coLs K nw t ta now L s))))))))))
theorem ZI1 (K : CK) (m nt nw t ta : Nat) (now : Int) (hs : Nat -> Int) (L : CO) (s : PS) (ht : t < m) (hm : m <= 64) (hta : ta < nt) (hnt : nt <= 64) (hnw : nw <= 4096) (H : CoL K t L.lo) (HG : CoG K L.g) (hM : K.M <= 4096) :
  ZAH Tryz.prog 275 (cohG K m nt nw (K.no t) hs L s) 13 [.l (.p 0 0 0 0), .l (.p 4 4 t 0), .l (.v (.int .i64 ta)), .l (.v (.int .i64 now))] fun x h k =>
   x = didO (ZF8 K t L (coLs K nw t ta now L s)).1 /\ k = 13 /\ h = cohG K m nt nw (K.no t) hs (ZF8 K t L (coLs K nw t ta now L s)).2.1 (ZF8 K t L (coLs K nw t ta now L s)).2.2 := by
 have hc := H.c
 have hb := H.b
 have hst := ZHE (L.lo (K.no t)) (K.cn (K.no t)) nt nw ta (K.inn t) now hs s hta hnt H.cn hnw H.ok
 rw [H.T] at hst
 unfold ZF8
 change ZDq _ _ _ _ _ _ (fun x h k => x = didO (coLs K nw t ta now L s).1 /\ k = 2 /\ h = [(0, some (.ob [1] ((coLs K nw t ta now L s).2.1.R (K.cn (K.no t))))), (1, some (ZBO nt nw hs (coLs K nw t ta now L s).2.2))]) at hst
 generalize coLs K nw t ta now L s = r at hst ⊢
 by_cases e1 : r.1.e = 1
 ·simp only [e1, decide_true, pick]
  generalize hcc : K.no t = c at *
  have hci : (c : Int) < 8 := by omega
  rcases (show c = 0 \/ c = 1 \/ c = 2 \/ c = 3 \/ c = 4 \/ c = 5 \/ c = 6 \/ c = 7 by omega) with rfl | rfl | rfl | rfl | rfl | rfl | rfl | rfl
  all_goals
   refine sE Tryz.func275 ic275_eq [.ca 8 4] fun G hP hA => ?_
   unfold evF ic275
   conv => whnf
   (repeat (first | (rw [hcc]) | ((first | refine aI ?_ | refine a64 ?_ | refine a32 ?_ | refine dY ?_ | refine dN ?_ | refine ZAE ?_ | refine dI hP ?_); conv => whnf) | (refine And.intro (by (conv => whnf); first | exact ⟨rfl, rfl, rfl⟩ | (refine And.intro (by (first | omega | assumption | (simp only [ZAI]; omega) | (simp [ZAI]; omega))) ?_; (conv => whnf); first | exact ⟨rfl, rfl, rfl⟩ | (refine ⟨?_, ?_, ?_⟩ <;> first | rfl | (rw [ZAF]; first | done | rfl) | (rw [hcc]; first | done | rfl))) | (refine ⟨?_, ?_, ?_⟩ <;> first | rfl | (rw [ZAF]; first | done | rfl) | (rw [hcc]; first | done | rfl))) ?_; conv => whnf) | rw [natI] | rw [ZAF] | ((first | refine ZAm hP hst ?_ | refine ZAh hP hst ?_); (conv => whnf); refine zA ?_; conv => whnf) | (refine arW ?_; conv => whnf)))
   (refine ZAC ?_; conv => whnf); refine ⟨rfl, rfl, rfl, ?_, ?_, rfl⟩
   ·rfl
   ·exact ⟨ZAD, rfl, ZAD, ZAD, ⟨rfl, rfl, fun j hj => by simp only [Nat.zero_add, ZA2, ZBK, ZBL, ZA3, ZA4, ZA5, ZBM, ZAw, ZA6, ZBc, ZBd, ZEz, ZE0, ZA8]⟩, ZAD, ZAD, ZAD, ZAD, ZAD, ZAD, ZAD, ZAD, trivial⟩
 ·simp only [e1, decide_false, pick]
  generalize hcc : K.no t = c at *
  have hci : (c : Int) < 8 := by omega
  rcases (show c = 0 \/ c = 1 \/ c = 2 \/ c = 3 \/ c = 4 \/ c = 5 \/ c = 6 \/ c = 7 by omega) with rfl | rfl | rfl | rfl | rfl | rfl | rfl | rfl
  all_goals
   refine sE Tryz.func275 ic275_eq [.ca 8 4] fun G hP hA => ?_
   unfold evF ic275
   conv => whnf
   (repeat (first | (rw [hcc]) | ((first | refine aI ?_ | refine a64 ?_ | refine a32 ?_ | refine dY ?_ | refine dN ?_ | refine ZAE ?_ | refine dI hP ?_); conv => whnf) | (refine And.intro (by (conv => whnf); first | exact ⟨rfl, rfl, rfl⟩ | (refine And.intro (by (first | omega | assumption | (simp only [ZAI]; omega) | (simp [ZAI]; omega))) ?_; (conv => whnf); first | exact ⟨rfl, rfl, rfl⟩ | (refine ⟨?_, ?_, ?_⟩ <;> first | rfl | (rw [ZAF]; first | done | rfl) | (rw [hcc]; first | done | rfl))) | (refine ⟨?_, ?_, ?_⟩ <;> first | rfl | (rw [ZAF]; first | done | rfl) | (rw [hcc]; first | done | rfl))) ?_; conv => whnf) | rw [natI] | rw [ZAF] | ((first | refine ZAm hP hst ?_ | refine ZAh hP hst ?_); (conv => whnf); refine zA ?_; conv => whnf) | (refine arW ?_; conv => whnf)))
   (refine ZAC ?_; conv => whnf); refine ⟨rfl, rfl, rfl, ?_, ?_, rfl⟩
   ·rfl
   ·exact ⟨ZAD, rfl, ZAD, ZAD, ⟨rfl, rfl, fun j hj => by simp only [Nat.zero_add, ZA2, ZBK, ZBL, ZA3, ZA4, ZA5, ZBM, ZAw, ZA6, ZBc, ZBd, ZEz, ZE0, ZA8]⟩, ZAD, ZAD, ZAD, ZAD, ZAD, ZAD, ZAD, ZAD, trivial⟩
theorem ZKH (K : CK) (m nt nw t ta : Nat) (now : Int) (hs : Nat -> Int) (L : CO) (s : PS) (ht : t < m) (hm : m <= 64) (hta : ta < nt) (hnt : nt <= 64) (hnw : nw <= 4096) (H : CoL K t L.lo) (HG : CoG K L.g) (hM : K.M <= 4096) :
  ZAH Tryz.prog 278 (cohG K m nt nw (K.no t) hs L s) 13 [.l (.p 0 0 0 0), .l (.p 4 4 t 0), .l (.v (.int .i64 ta)), .l (.v (.int .i64 now))] fun x h k =>
   x = didO (ZHF K nw t ta L s).1 /\ k = 13 /\ h = cohG K m nt nw (K.no t) hs (ZHF K nw t ta L s).2.1 (ZHF K nw t ta L s).2.2 := by
 have hc := H.c
 have hb := H.b
 have h1 := ldS nt nw hs s ta (coA K t) hta hnt hnw
 have hlk := ZNP L.g 8 (K.no t : Int) (-1) (by omega)
 rw [HG.T] at hlk
 unfold ZHF
 by_cases e1 : rdV nw (coA K t) s = 0
 ·simp only [e1, decide_true, pick]
  unfold coA at *
  generalize hcc : K.no t = c at *
  have hci : (c : Int) < 8 := by omega
  rcases (show c = 0 \/ c = 1 \/ c = 2 \/ c = 3 \/ c = 4 \/ c = 5 \/ c = 6 \/ c = 7 by omega) with rfl | rfl | rfl | rfl | rfl | rfl | rfl | rfl
  all_goals
   refine sE Tryz.func278 ic278_eq [.ca 8 4] fun G hP hA => ?_
   unfold evF ic278
   conv => whnf
   (repeat (first | (rw [hcc]) | ((first | refine aI ?_ | refine a64 ?_ | refine a32 ?_ | refine dY ?_ | refine dN ?_ | refine ZAE ?_ | refine dI hP ?_); conv => whnf) | (refine And.intro (by (conv => whnf); first | exact ⟨rfl, rfl, rfl⟩ | (refine And.intro (by (first | omega | assumption | (simp only [ZAI]; omega) | (simp [ZAI]; omega))) ?_; (conv => whnf); first | exact ⟨rfl, rfl, rfl⟩ | (refine ⟨?_, ?_, ?_⟩ <;> first | rfl | (rw [ZAF]; first | done | rfl) | (rw [hcc]; first | done | rfl))) | (refine ⟨?_, ?_, ?_⟩ <;> first | rfl | (rw [ZAF]; first | done | rfl) | (rw [hcc]; first | done | rfl))) ?_; conv => whnf) | rw [natI] | rw [ZAF] | ((first | refine ZAA hP h1 ?_ | refine ZAB hP h1 ?_ | refine ZAm hP hlk ?_ | refine ZAh hP hlk ?_); (conv => whnf); refine zA ?_; conv => whnf) | (refine arW ?_; conv => whnf)))
   (refine ZAC ?_; conv => whnf); refine ⟨rfl, rfl, rfl, ?_, ?_, rfl⟩
   ·rfl
   ·exact ⟨ZAD, rfl, ZAD, ZAD, ⟨rfl, rfl, fun j hj => by simp only [Nat.zero_add, ZA2, ZBK, ZBL, ZA3, ZA4, ZA5, ZBM, ZAw, ZA6, ZBc, ZBd, ZEz, ZE0, ZA8]⟩, ZAD, ZAD, ZAD, ZAD, ZAD, ZAD, ZAD, ZAD, trivial⟩
 ·simp only [e1, decide_false, pick]
  unfold coA at *
  generalize hcc : K.no t = c at *
  have hci : (c : Int) < 8 := by omega
  rcases (show c = 0 \/ c = 1 \/ c = 2 \/ c = 3 \/ c = 4 \/ c = 5 \/ c = 6 \/ c = 7 by omega) with rfl | rfl | rfl | rfl | rfl | rfl | rfl | rfl
  all_goals
   refine sE Tryz.func278 ic278_eq [.ca 8 4] fun G hP hA => ?_
   unfold evF ic278
   conv => whnf
   (repeat (first | (rw [hcc]) | ((first | refine aI ?_ | refine a64 ?_ | refine a32 ?_ | refine dY ?_ | refine dN ?_ | refine ZAE ?_ | refine dI hP ?_); conv => whnf) | (refine And.intro (by (conv => whnf); first | exact ⟨rfl, rfl, rfl⟩ | (refine And.intro (by (first | omega | assumption | (simp only [ZAI]; omega) | (simp [ZAI]; omega))) ?_; (conv => whnf); first | exact ⟨rfl, rfl, rfl⟩ | (refine ⟨?_, ?_, ?_⟩ <;> first | rfl | (rw [ZAF]; first | done | rfl) | (rw [hcc]; first | done | rfl))) | (refine ⟨?_, ?_, ?_⟩ <;> first | rfl | (rw [ZAF]; first | done | rfl) | (rw [hcc]; first | done | rfl))) ?_; conv => whnf) | rw [natI] | rw [ZAF] | ((first | refine ZAA hP h1 ?_ | refine ZAB hP h1 ?_ | refine ZAm hP hlk ?_ | refine ZAh hP hlk ?_); (conv => whnf); refine zA ?_; conv => whnf) | (refine arW ?_; conv => whnf)))
   (refine ZAC ?_; conv => whnf); exact zF
theorem ZKI (K : CK) (m nt nw t ta : Nat) (now : Int) (hs : Nat -> Int) (L : CO) (s : PS) (ht : t < m) (hm : m <= 64) (hta : ta < nt) (hnt : nt <= 64) (hnw : nw <= 4096) (H : CoL K t L.lo) (HG : CoG K L.g) (hM : K.M <= 4096) :
  ZAH Tryz.prog 281 (cohG K m nt nw (K.no t) hs L s) 13 [.l (.p 0 0 0 0), .l (.p 4 4 t 0), .l (.v (.int .i64 ta)), .l (.v (.int .i64 now))] fun x h k =>
   x = didO (ZIz t L (coGs K nw t ta now L s)).1 /\ k = 13 /\ h = cohG K m nt nw (K.no t) hs (ZIz t L (coGs K nw t ta now L s)).2.1 (ZIz t L (coGs K nw t ta now L s)).2.2 := by
 have hc := H.c
 have hb := H.b
 have hst := ZHE L.g 8 nt nw ta (K.no t : Int) now hs s hta hnt (by omega) hnw HG.ok
 rw [HG.T] at hst
 unfold ZIz
 change ZDq _ _ _ _ _ _ (fun x h k => x = didO (coGs K nw t ta now L s).1 /\ k = 2 /\ h = [(0, some (.ob [1] ((coGs K nw t ta now L s).2.1.R 8))), (1, some (ZBO nt nw hs (coGs K nw t ta now L s).2.2))]) at hst
 generalize coGs K nw t ta now L s = r at hst ⊢
 by_cases e1 : r.1.e = 1
 ·simp only [e1, decide_true, pick]
  generalize hcc : K.no t = c at *
  have hci : (c : Int) < 8 := by omega
  rcases (show c = 0 \/ c = 1 \/ c = 2 \/ c = 3 \/ c = 4 \/ c = 5 \/ c = 6 \/ c = 7 by omega) with rfl | rfl | rfl | rfl | rfl | rfl | rfl | rfl
  all_goals
   refine sE Tryz.func281 ic281_eq [.ca 8 4] fun G hP hA => ?_
   unfold evF ic281
   conv => whnf
   (repeat (first | (rw [hcc]) | ((first | refine aI ?_ | refine a64 ?_ | refine a32 ?_ | refine dY ?_ | refine dN ?_ | refine ZAE ?_ | refine dI hP ?_); conv => whnf) | (refine And.intro (by (conv => whnf); first | exact ⟨rfl, rfl, rfl⟩ | (refine And.intro (by (first | omega | assumption | (simp only [ZAI]; omega) | (simp [ZAI]; omega))) ?_; (conv => whnf); first | exact ⟨rfl, rfl, rfl⟩ | (refine ⟨?_, ?_, ?_⟩ <;> first | rfl | (rw [ZAF]; first | done | rfl) | (rw [hcc]; first | done | rfl))) | (refine ⟨?_, ?_, ?_⟩ <;> first | rfl | (rw [ZAF]; first | done | rfl) | (rw [hcc]; first | done | rfl))) ?_; conv => whnf) | rw [natI] | rw [ZAF] | ((first | refine ZAm hP hst ?_ | refine ZAh hP hst ?_); (conv => whnf); refine zA ?_; conv => whnf) | (refine arW ?_; conv => whnf)))
   (refine ZAC ?_; conv => whnf); refine ⟨rfl, rfl, rfl, ?_, ?_, rfl⟩
   ·rfl
   ·exact ⟨ZAD, rfl, ZAD, ZAD, ⟨rfl, rfl, fun j hj => by simp only [Nat.zero_add, ZA2, ZBK, ZBL, ZA3, ZA4, ZA5, ZBM, ZAw, ZA6, ZBc, ZBd, ZEz, ZE0, ZA8]⟩, ZAD, ZAD, ZAD, ZAD, ZAD, ZAD, ZAD, ZAD, trivial⟩
 ·simp only [e1, decide_false, pick]
  generalize hcc : K.no t = c at *
  have hci : (c : Int) < 8 := by omega
  rcases (show c = 0 \/ c = 1 \/ c = 2 \/ c = 3 \/ c = 4 \/ c = 5 \/ c = 6 \/ c = 7 by omega) with rfl | rfl | rfl | rfl | rfl | rfl | rfl | rfl
  all_goals
   refine sE Tryz.func281 ic281_eq [.ca 8 4] fun G hP hA => ?_
   unfold evF ic281
   conv => whnf
   (repeat (first | (rw [hcc]) | ((first | refine aI ?_ | refine a64 ?_ | refine a32 ?_ | refine dY ?_ | refine dN ?_ | refine ZAE ?_ | refine dI hP ?_); conv => whnf) | (refine And.intro (by (conv => whnf); first | exact ⟨rfl, rfl, rfl⟩ | (refine And.intro (by (first | omega | assumption | (simp only [ZAI]; omega) | (simp [ZAI]; omega))) ?_; (conv => whnf); first | exact ⟨rfl, rfl, rfl⟩ | (refine ⟨?_, ?_, ?_⟩ <;> first | rfl | (rw [ZAF]; first | done | rfl) | (rw [hcc]; first | done | rfl))) | (refine ⟨?_, ?_, ?_⟩ <;> first | rfl | (rw [ZAF]; first | done | rfl) | (rw [hcc]; first | done | rfl))) ?_; conv => whnf) | rw [natI] | rw [ZAF] | ((first | refine ZAm hP hst ?_ | refine ZAh hP hst ?_); (conv => whnf); refine zA ?_; conv => whnf) | (refine arW ?_; conv => whnf)))
   (refine ZAC ?_; conv => whnf); exact zF
theorem ZI2 (K : CK) (m nt nw t ta : Nat) (now : Int) (hs : Nat -> Int) (L : CO) (s : PS) (ht : t < m) (hm : m <= 64) (hta : ta < nt) (hnt : nt <= 64) (hnw : nw <= 4096) (H : CoL K t L.lo) (HG : CoG K L.g) (hM : K.M <= 4096) :
  ZAH Tryz.prog 283 (cohG K m nt nw (K.no t) hs L s) 13 [.l (.p 0 0 0 0), .l (.p 4 4 t 0), .l (.v (.int .i64 ta)), .l (.v (.int .i64 now))] fun x h k =>
   x = didO (ZF9 K nw t ta L s).1 /\ k = 13 /\ h = cohG K m nt nw (K.no t) hs (ZF9 K nw t ta L s).2.1 (ZF9 K nw t ta L s).2.2 := by
 have hc := H.c
 have hb := H.b
 have h1 := stS nt nw hs s ta (coA K t) 1 hta hnt hnw
 unfold ZF9
 unfold coA at *
 generalize hcc : K.no t = c at *
 have hci : (c : Int) < 8 := by omega
 rcases (show c = 0 \/ c = 1 \/ c = 2 \/ c = 3 \/ c = 4 \/ c = 5 \/ c = 6 \/ c = 7 by omega) with rfl | rfl | rfl | rfl | rfl | rfl | rfl | rfl
 all_goals
  refine sE Tryz.func283 ic283_eq [.ca 8 4] fun G hP hA => ?_
  unfold evF ic283
  conv => whnf
  (repeat (first | (rw [hcc]) | ((first | refine aI ?_ | refine a64 ?_ | refine a32 ?_ | refine dY ?_ | refine dN ?_ | refine ZAE ?_ | refine dI hP ?_); conv => whnf) | (refine And.intro (by (conv => whnf); first | exact ⟨rfl, rfl, rfl⟩ | (refine And.intro (by (first | omega | assumption | (simp only [ZAI]; omega) | (simp [ZAI]; omega))) ?_; (conv => whnf); first | exact ⟨rfl, rfl, rfl⟩ | (refine ⟨?_, ?_, ?_⟩ <;> first | rfl | (rw [ZAF]; first | done | rfl) | (rw [hcc]; first | done | rfl))) | (refine ⟨?_, ?_, ?_⟩ <;> first | rfl | (rw [ZAF]; first | done | rfl) | (rw [hcc]; first | done | rfl))) ?_; conv => whnf) | rw [natI] | rw [ZAF] | ((first | refine ZAA hP h1 ?_ | refine ZAB hP h1 ?_); (conv => whnf); refine zA ?_; conv => whnf) | (refine arW ?_; conv => whnf)))
  (refine ZAC ?_; conv => whnf); exact zF
theorem ZI3 (K : CK) (m nt nw t ta : Nat) (now : Int) (hs : Nat -> Int) (L : CO) (s : PS) (ht : t < m) (hm : m <= 64) (hta : ta < nt) (hnt : nt <= 64) (hnw : nw <= 4096) (H : CoL K t L.lo) (HG : CoG K L.g) (hM : K.M <= 4096) :
  ZAH Tryz.prog 274 (cohG K m nt nw (K.no t) hs L s) 13 [.l (.p 0 0 0 0), .l (.p 4 4 t 0), .l (.v (.int .i64 ta)), .l (.v (.int .i64 now))] fun x h k =>
   x = didO (ZFN K nw t ta L s).1 /\ k = 13 /\ h = cohG K m nt nw (K.no t) hs (ZFN K nw t ta L s).2.1 (ZFN K nw t ta L s).2.2 := by
 have hc := H.c
 have hb := H.b
 have h1 := ldS nt nw hs s ta (coA K t) hta hnt hnw
 have hpr := ZPb (L.lo (K.no t)) (K.cn (K.no t)) (K.inn t) H.cn
 rw [H.T] at hpr
 unfold ZFN
 by_cases e1 : rdV nw (coA K t) s < K.bu
 ·simp only [e1, decide_true, pick]
  unfold coA at *
  generalize hcc : K.no t = c at *
  have hci : (c : Int) < 8 := by omega
  rcases (show c = 0 \/ c = 1 \/ c = 2 \/ c = 3 \/ c = 4 \/ c = 5 \/ c = 6 \/ c = 7 by omega) with rfl | rfl | rfl | rfl | rfl | rfl | rfl | rfl
  all_goals
   refine sE Tryz.func274 ic274_eq [.ca 8 4] fun G hP hA => ?_
   unfold evF ic274
   conv => whnf
   (repeat (first | (rw [hcc]) | ((first | refine aI ?_ | refine a64 ?_ | refine a32 ?_ | refine dY ?_ | refine dN ?_ | refine ZAE ?_ | refine dI hP ?_); conv => whnf) | (refine And.intro (by (conv => whnf); first | exact ⟨rfl, rfl, rfl⟩ | (refine And.intro (by (first | omega | assumption | (simp only [ZAI]; omega) | (simp [ZAI]; omega))) ?_; (conv => whnf); first | exact ⟨rfl, rfl, rfl⟩ | (refine ⟨?_, ?_, ?_⟩ <;> first | rfl | (rw [ZAF]; first | done | rfl) | (rw [hcc]; first | done | rfl))) | (refine ⟨?_, ?_, ?_⟩ <;> first | rfl | (rw [ZAF]; first | done | rfl) | (rw [hcc]; first | done | rfl))) ?_; conv => whnf) | rw [natI] | rw [ZAF] | ((first | refine ZAA hP h1 ?_ | refine ZAB hP h1 ?_ | refine ZAm hP hpr ?_ | refine ZAh hP hpr ?_); (conv => whnf); refine zA ?_; conv => whnf) | (refine arW ?_; conv => whnf)))
   (refine ZAC ?_; conv => whnf); refine ⟨rfl, rfl, rfl, ?_, ?_, rfl⟩
   ·rfl
   ·exact ⟨ZAD, rfl, ZAD, ZAD, ⟨rfl, rfl, fun j hj => by simp only [Nat.zero_add, ZA2, ZBK, ZBL, ZA3, ZA4, ZA5, ZBM, ZAw, ZA6, ZBc, ZBd, ZEz, ZE0, ZA8]⟩, ZAD, ZAD, ZAD, ZAD, ZAD, ZAD, ZAD, ZAD, trivial⟩
 ·simp only [e1, decide_false, pick]
  unfold coA at *
  generalize hcc : K.no t = c at *
  have hci : (c : Int) < 8 := by omega
  rcases (show c = 0 \/ c = 1 \/ c = 2 \/ c = 3 \/ c = 4 \/ c = 5 \/ c = 6 \/ c = 7 by omega) with rfl | rfl | rfl | rfl | rfl | rfl | rfl | rfl
  all_goals
   refine sE Tryz.func274 ic274_eq [.ca 8 4] fun G hP hA => ?_
   unfold evF ic274
   conv => whnf
   (repeat (first | (rw [hcc]) | ((first | refine aI ?_ | refine a64 ?_ | refine a32 ?_ | refine dY ?_ | refine dN ?_ | refine ZAE ?_ | refine dI hP ?_); conv => whnf) | (refine And.intro (by (conv => whnf); first | exact ⟨rfl, rfl, rfl⟩ | (refine And.intro (by (first | omega | assumption | (simp only [ZAI]; omega) | (simp [ZAI]; omega))) ?_; (conv => whnf); first | exact ⟨rfl, rfl, rfl⟩ | (refine ⟨?_, ?_, ?_⟩ <;> first | rfl | (rw [ZAF]; first | done | rfl) | (rw [hcc]; first | done | rfl))) | (refine ⟨?_, ?_, ?_⟩ <;> first | rfl | (rw [ZAF]; first | done | rfl) | (rw [hcc]; first | done | rfl))) ?_; conv => whnf) | rw [natI] | rw [ZAF] | ((first | refine ZAA hP h1 ?_ | refine ZAB hP h1 ?_ | refine ZAm hP hpr ?_ | refine ZAh hP hpr ?_); (conv => whnf); refine zA ?_; conv => whnf) | (refine arW ?_; conv => whnf)))
   (refine ZAC ?_; conv => whnf); refine ⟨rfl, rfl, rfl, ?_, ?_, rfl⟩
   ·rfl
   ·exact ⟨ZAD, rfl, ZAD, ZAD, ⟨rfl, rfl, fun j hj => by simp only [Nat.zero_add, ZA2, ZBK, ZBL, ZA3, ZA4, ZA5, ZBM, ZAw, ZA6, ZBc, ZBd, ZEz, ZE0, ZA8]⟩, ZAD, ZAD, ZAD, ZAD, ZAD, ZAD, ZAD, ZAD, trivial⟩
theorem ZI4 (K : CK) (m nt nw t ta : Nat) (now : Int) (hs : Nat -> Int) (L : CO) (s : PS) (ht : t < m) (hm : m <= 64) (hta : ta < nt) (hnt : nt <= 64) (hnw : nw <= 4096) (H : CoL K t L.lo) (HG : CoG K L.g) (hM : K.M <= 4096) :
  ZAH Tryz.prog 277 (cohG K m nt nw (K.no t) hs L s) 13 [.l (.p 0 0 0 0), .l (.p 4 4 t 0), .l (.v (.int .i64 ta)), .l (.v (.int .i64 now))] fun x h k =>
   x = didO (ZGA K t L (coLs K nw t ta now L s)).1 /\ k = 13 /\ h = cohG K m nt nw (K.no t) hs (ZGA K t L (coLs K nw t ta now L s)).2.1 (ZGA K t L (coLs K nw t ta now L s)).2.2 := by
 have hc := H.c
 have hb := H.b
 have hst := ZHE (L.lo (K.no t)) (K.cn (K.no t)) nt nw ta (K.inn t) now hs s hta hnt H.cn hnw H.ok
 rw [H.T] at hst
 unfold ZGA
 change ZDq _ _ _ _ _ _ (fun x h k => x = didO (coLs K nw t ta now L s).1 /\ k = 2 /\ h = [(0, some (.ob [1] ((coLs K nw t ta now L s).2.1.R (K.cn (K.no t))))), (1, some (ZBO nt nw hs (coLs K nw t ta now L s).2.2))]) at hst
 generalize coLs K nw t ta now L s = r at hst ⊢
 by_cases e1 : r.1.e = 5
 ·simp only [e1, decide_true, pick]
  generalize hcc : K.no t = c at *
  have hci : (c : Int) < 8 := by omega
  rcases (show c = 0 \/ c = 1 \/ c = 2 \/ c = 3 \/ c = 4 \/ c = 5 \/ c = 6 \/ c = 7 by omega) with rfl | rfl | rfl | rfl | rfl | rfl | rfl | rfl
  all_goals
   refine sE Tryz.func277 ic277_eq [.ca 8 4] fun G hP hA => ?_
   unfold evF ic277
   conv => whnf
   (repeat (first | (rw [hcc]) | ((first | refine aI ?_ | refine a64 ?_ | refine a32 ?_ | refine dY ?_ | refine dN ?_ | refine ZAE ?_ | refine dI hP ?_); conv => whnf) | (refine And.intro (by (conv => whnf); first | exact ⟨rfl, rfl, rfl⟩ | (refine And.intro (by (first | omega | assumption | (simp only [ZAI]; omega) | (simp [ZAI]; omega))) ?_; (conv => whnf); first | exact ⟨rfl, rfl, rfl⟩ | (refine ⟨?_, ?_, ?_⟩ <;> first | rfl | (rw [ZAF]; first | done | rfl) | (rw [hcc]; first | done | rfl))) | (refine ⟨?_, ?_, ?_⟩ <;> first | rfl | (rw [ZAF]; first | done | rfl) | (rw [hcc]; first | done | rfl))) ?_; conv => whnf) | rw [natI] | rw [ZAF] | ((first | refine ZAm hP hst ?_ | refine ZAh hP hst ?_); (conv => whnf); refine zA ?_; conv => whnf) | (refine arW ?_; conv => whnf)))
   (refine ZAC ?_; conv => whnf); refine ⟨rfl, rfl, rfl, ?_, ?_, rfl⟩
   ·rfl
   ·exact ⟨ZAD, rfl, ZAD, ZAD, ⟨rfl, rfl, fun j hj => by simp only [Nat.zero_add, ZA2, ZBK, ZBL, ZA3, ZA4, ZA5, ZBM, ZAw, ZA6, ZBc, ZBd, ZEz, ZE0, ZA8]⟩, ZAD, ZAD, ZAD, ZAD, ZAD, ZAD, ZAD, ZAD, trivial⟩
 ·simp only [e1, decide_false, pick]
  generalize hcc : K.no t = c at *
  have hci : (c : Int) < 8 := by omega
  rcases (show c = 0 \/ c = 1 \/ c = 2 \/ c = 3 \/ c = 4 \/ c = 5 \/ c = 6 \/ c = 7 by omega) with rfl | rfl | rfl | rfl | rfl | rfl | rfl | rfl
  all_goals
   refine sE Tryz.func277 ic277_eq [.ca 8 4] fun G hP hA => ?_
   unfold evF ic277
   conv => whnf
   (repeat (first | (rw [hcc]) | ((first | refine aI ?_ | refine a64 ?_ | refine a32 ?_ | refine dY ?_ | refine dN ?_ | refine ZAE ?_ | refine dI hP ?_); conv => whnf) | (refine And.intro (by (conv => whnf); first | exact ⟨rfl, rfl, rfl⟩ | (refine And.intro (by (first | omega | assumption | (simp only [ZAI]; omega) | (simp [ZAI]; omega))) ?_; (conv => whnf); first | exact ⟨rfl, rfl, rfl⟩ | (refine ⟨?_, ?_, ?_⟩ <;> first | rfl | (rw [ZAF]; first | done | rfl) | (rw [hcc]; first | done | rfl))) | (refine ⟨?_, ?_, ?_⟩ <;> first | rfl | (rw [ZAF]; first | done | rfl) | (rw [hcc]; first | done | rfl))) ?_; conv => whnf) | rw [natI] | rw [ZAF] | ((first | refine ZAm hP hst ?_ | refine ZAh hP hst ?_); (conv => whnf); refine zA ?_; conv => whnf) | (refine arW ?_; conv => whnf)))
   (refine ZAC ?_; conv => whnf); refine ⟨rfl, rfl, rfl, ?_, ?_, rfl⟩
   ·rfl
   ·exact ⟨ZAD, rfl, ZAD, ZAD, ⟨rfl, rfl, fun j hj => by simp only [Nat.zero_add, ZA2, ZBK, ZBL, ZA3, ZA4, ZA5, ZBM, ZAw, ZA6, ZBc, ZBd, ZEz, ZE0, ZA8]⟩, ZAD, ZAD, ZAD, ZAD, ZAD, ZAD, ZAD, ZAD, trivial⟩
theorem ZGB (K : CK) (m nt nw t ta : Nat) (now : Int) (hs : Nat -> Int) (L : CO) (s : PS) (ht : t < m) (hm : m <= 64) (hta : ta < nt) (hnt : nt <= 64) (hnw : nw <= 4096) (H : CoL K t L.lo) :
  ZAH Tryz.prog 282 (cohG K m nt nw (K.no t) hs L s) 13 [.l (.p 0 0 0 0), .l (.p 4 4 t 0)] fun x h k =>
   x = didO (evD 0) /\ k = 13 /\ h = cohG K m nt nw (K.no t) hs (ZHG K t L) s := by
 have hc := H.c
 have hb := H.b
 have hul := ZHn (L.lo (K.no t)) (K.cn (K.no t)) (K.inn t) H.cn
 rw [H.T] at hul
 unfold ZHG
 generalize hcc : K.no t = c at *
 have hci : (c : Int) < 8 := by omega
 rcases (show c = 0 \/ c = 1 \/ c = 2 \/ c = 3 \/ c = 4 \/ c = 5 \/ c = 6 \/ c = 7 by omega) with rfl | rfl | rfl | rfl | rfl | rfl | rfl | rfl
 all_goals
  refine sE Tryz.func282 ic282_eq [.ca 4 4] fun G hP hA => ?_
  unfold evF ic282
  conv => whnf
  (repeat (first | (rw [hcc]) | ((first | refine aI ?_ | refine a64 ?_ | refine a32 ?_ | refine dY ?_ | refine dN ?_ | refine ZAE ?_ | refine dI hP ?_); conv => whnf) | (refine And.intro (by (conv => whnf); first | exact ⟨rfl, rfl, rfl⟩ | (refine And.intro (by (first | omega | assumption | (simp only [ZAI]; omega) | (simp [ZAI]; omega))) ?_; (conv => whnf); first | exact ⟨rfl, rfl, rfl⟩ | (refine ⟨?_, ?_, ?_⟩ <;> first | rfl | (rw [ZAF]; first | done | rfl) | (rw [hcc]; first | done | rfl))) | (refine ⟨?_, ?_, ?_⟩ <;> first | rfl | (rw [ZAF]; first | done | rfl) | (rw [hcc]; first | done | rfl))) ?_; conv => whnf) | rw [natI] | rw [ZAF] | ((first | refine ZAm hP hul ?_ | refine ZAh hP hul ?_); (conv => whnf); refine zA ?_; conv => whnf) | (refine arW ?_; conv => whnf)))
  (refine ZAC ?_; conv => whnf); refine ⟨rfl, rfl, rfl, ?_, ?_, rfl⟩
  ·rfl
  ·exact ⟨ZAD, rfl, ZAD, ZAD, ⟨rfl, rfl, fun j hj => by simp only [Nat.zero_add, ZA2, ZBK, ZBL, ZA3, ZA4, ZA5, ZBM, ZAw, ZA6, ZBc, ZBd, ZEz, ZE0, ZA8]⟩, ZAD, ZAD, ZAD, ZAD, ZAD, ZAD, ZAD, ZAD, trivial⟩
theorem ZLz (K : CK) (m nt nw t ta : Nat) (now : Int) (hs : Nat -> Int) (L : CO) (s : PS) (ht : t < m) (hm : m <= 64) (hta : ta < nt) (hnt : nt <= 64) (hnw : nw <= 4096) (H : CoL K t L.lo) (HG : CoG K L.g) (hM : K.M <= 4096) :
  ZAH Tryz.prog 284 (cohG K m nt nw (K.no t) hs L s) 13 [.l (.p 0 0 0 0), .l (.p 4 4 t 0), .l (.v (.int .i64 ta)), .l (.v (.int .i64 now))] fun x h k =>
   x = didO (ZNQ K t L (coLs K nw t ta now L s)).1 /\ k = 13 /\ h = cohG K m nt nw (K.no t) hs (ZNQ K t L (coLs K nw t ta now L s)).2.1 (ZNQ K t L (coLs K nw t ta now L s)).2.2 := by
 have hc := H.c
 have hb := H.b
 have hst := ZHE (L.lo (K.no t)) (K.cn (K.no t)) nt nw ta (K.inn t) now hs s hta hnt H.cn hnw H.ok
 rw [H.T] at hst
 unfold ZNQ
 change ZDq _ _ _ _ _ _ (fun x h k => x = didO (coLs K nw t ta now L s).1 /\ k = 2 /\ h = [(0, some (.ob [1] ((coLs K nw t ta now L s).2.1.R (K.cn (K.no t))))), (1, some (ZBO nt nw hs (coLs K nw t ta now L s).2.2))]) at hst
 generalize coLs K nw t ta now L s = r at hst ⊢
 generalize hcc : K.no t = c at *
 have hci : (c : Int) < 8 := by omega
 rcases (show c = 0 \/ c = 1 \/ c = 2 \/ c = 3 \/ c = 4 \/ c = 5 \/ c = 6 \/ c = 7 by omega) with rfl | rfl | rfl | rfl | rfl | rfl | rfl | rfl
 all_goals
  refine sE Tryz.func284 ic284_eq [.ca 8 4] fun G hP hA => ?_
  unfold evF ic284
  conv => whnf
  (repeat (first | (rw [hcc]) | ((first | refine aI ?_ | refine a64 ?_ | refine a32 ?_ | refine dY ?_ | refine dN ?_ | refine ZAE ?_ | refine dI hP ?_); conv => whnf) | (refine And.intro (by (conv => whnf); first | exact ⟨rfl, rfl, rfl⟩ | (refine And.intro (by (first | omega | assumption | (simp only [ZAI]; omega) | (simp [ZAI]; omega))) ?_; (conv => whnf); first | exact ⟨rfl, rfl, rfl⟩ | (refine ⟨?_, ?_, ?_⟩ <;> first | rfl | (rw [ZAF]; first | done | rfl) | (rw [hcc]; first | done | rfl))) | (refine ⟨?_, ?_, ?_⟩ <;> first | rfl | (rw [ZAF]; first | done | rfl) | (rw [hcc]; first | done | rfl))) ?_; conv => whnf) | rw [natI] | rw [ZAF] | ((first | refine ZAm hP hst ?_ | refine ZAh hP hst ?_); (conv => whnf); refine zA ?_; conv => whnf) | (refine arW ?_; conv => whnf)))
  (refine ZAC ?_; conv => whnf); exact zF
theorem ZHs (K : CK) (m nt nw t ta : Nat) (now : Int) (hs : Nat -> Int) (L : CO) (s : PS) (ht : t < m) (hm : m <= 64) (hta : ta < nt) (hnt : nt <= 64) (hnw : nw <= 4096) (H : CoL K t L.lo) (HG : CoG K L.g) (hM : K.M <= 4096) :
  ZAH Tryz.prog 276 (cohG K m nt nw (K.no t) hs L s) 13 [.l (.p 0 0 0 0), .l (.p 4 4 t 0), .l (.v (.int .i64 ta)), .l (.v (.int .i64 now))] fun x h k =>
   x = didO (ZE1 K nw t ta L s).1 /\ k = 13 /\ h = cohG K m nt nw (K.no t) hs (ZE1 K nw t ta L s).2.1 (ZE1 K nw t ta L s).2.2 := by
 have hc := H.c
 have hb := H.b
 have h1 := stS nt nw hs s ta (coA K t) 0 hta hnt hnw
 have hul := ZHn L.g 8 (K.no t : Int) (by omega)
 rw [HG.T] at hul
 unfold ZE1
 unfold coA at *
 generalize hcc : K.no t = c at *
 have hci : (c : Int) < 8 := by omega
 rcases (show c = 0 \/ c = 1 \/ c = 2 \/ c = 3 \/ c = 4 \/ c = 5 \/ c = 6 \/ c = 7 by omega) with rfl | rfl | rfl | rfl | rfl | rfl | rfl | rfl
 all_goals
  refine sE Tryz.func276 ic276_eq [.ca 8 4] fun G hP hA => ?_
  unfold evF ic276
  conv => whnf
  (repeat (first | (rw [hcc]) | ((first | refine aI ?_ | refine a64 ?_ | refine a32 ?_ | refine dY ?_ | refine dN ?_ | refine ZAE ?_ | refine dI hP ?_); conv => whnf) | (refine And.intro (by (conv => whnf); first | exact ⟨rfl, rfl, rfl⟩ | (refine And.intro (by (first | omega | assumption | (simp only [ZAI]; omega) | (simp [ZAI]; omega))) ?_; (conv => whnf); first | exact ⟨rfl, rfl, rfl⟩ | (refine ⟨?_, ?_, ?_⟩ <;> first | rfl | (rw [ZAF]; first | done | rfl) | (rw [hcc]; first | done | rfl))) | (refine ⟨?_, ?_, ?_⟩ <;> first | rfl | (rw [ZAF]; first | done | rfl) | (rw [hcc]; first | done | rfl))) ?_; conv => whnf) | rw [natI] | rw [ZAF] | ((first | refine ZAA hP h1 ?_ | refine ZAB hP h1 ?_ | refine ZAm hP hul ?_ | refine ZAh hP hul ?_); (conv => whnf); refine zA ?_; conv => whnf) | (refine arW ?_; conv => whnf)))
  (refine ZAC ?_; conv => whnf); refine ⟨rfl, rfl, rfl, ?_, ?_, rfl⟩
  ·rfl
  ·exact ⟨ZAD, rfl, ZAD, ZAD, ⟨rfl, rfl, fun j hj => by simp only [Nat.zero_add, ZA2, ZBK, ZBL, ZA3, ZA4, ZA5, ZBM, ZAw, ZA6, ZBc, ZBd, ZEz, ZE0, ZA8]⟩, ZAD, ZAD, ZAD, ZAD, ZAD, ZAD, ZAD, ZAD, trivial⟩
theorem ZKJ (K : CK) (m nt nw t ta : Nat) (now : Int) (hs : Nat -> Int) (L : CO) (s : PS) (ht : t < m) (hm : m <= 64) (hta : ta < nt) (hnt : nt <= 64) (hnw : nw <= 4096) (H : CoL K t L.lo) (HG : CoG K L.g) (hM : K.M <= 4096) :
  ZAH Tryz.prog 280 (cohG K m nt nw (K.no t) hs L s) 13 [.l (.p 0 0 0 0), .l (.p 4 4 t 0), .l (.v (.int .i64 ta)), .l (.v (.int .i64 now))] fun x h k =>
   x = didO (ZI0 K nw t ta L s).1 /\ k = 13 /\ h = cohG K m nt nw (K.no t) hs (ZI0 K nw t ta L s).2.1 (ZI0 K nw t ta L s).2.2 := by
 have hc := H.c
 have hb := H.b
 have h1 := stS nt nw hs s ta (coA K t) (u32p (L.pa t)) hta hnt hnw
 have hcl := ZGB K m nt nw t ta now hs L (wtS nw ta (coA K t) (u32p (L.pa t)) s) ht hm hta hnt hnw H
 unfold ZI0
 generalize ZHG K t L = L2 at hcl ⊢
 unfold coA at *
 generalize hcc : K.no t = c at *
 have hci : (c : Int) < 8 := by omega
 rcases (show c = 0 \/ c = 1 \/ c = 2 \/ c = 3 \/ c = 4 \/ c = 5 \/ c = 6 \/ c = 7 by omega) with rfl | rfl | rfl | rfl | rfl | rfl | rfl | rfl
 all_goals
  refine sE Tryz.func280 ic280_eq [.ca 8 4] fun G hP hA => ?_
  unfold evF ic280
  conv => whnf
  (repeat (first | (rw [hcc]) | (((refine ZDx hP hcl [0, 1, 2, 3, 4, 5, 6, 7, 8, 9, 10, 11, 12] rfl rfl rfl (by exact ZAD) rfl rfl ?_); conv => whnf)) | ((first | refine aI ?_ | refine a64 ?_ | refine a32 ?_ | refine dY ?_ | refine dN ?_ | refine ZAE ?_ | refine dI hP ?_); conv => whnf) | (refine And.intro (by (conv => whnf); first | exact ⟨rfl, rfl, rfl⟩ | (refine And.intro (by (first | omega | assumption | (simp only [ZAI]; omega) | (simp [ZAI]; omega))) ?_; (conv => whnf); first | exact ⟨rfl, rfl, rfl⟩ | (refine ⟨?_, ?_, ?_⟩ <;> first | rfl | (rw [ZAF]; first | done | rfl) | (rw [hcc]; first | done | rfl))) | (refine ⟨?_, ?_, ?_⟩ <;> first | rfl | (rw [ZAF]; first | done | rfl) | (rw [hcc]; first | done | rfl))) ?_; conv => whnf) | rw [natI] | rw [ZAF] | ((first | refine ZAA hP h1 ?_ | refine ZAB hP h1 ?_); (conv => whnf); refine zA ?_; conv => whnf) | (refine arW ?_; conv => whnf)))
  (refine ZAC ?_; conv => whnf); exact zF
theorem ZI5 (K : CK) (m nt nw t ta : Nat) (now : Int) (hs : Nat -> Int) (L : CO) (s : PS) (ht : t < m) (hm : m <= 64) (hta : ta < nt) (hnt : nt <= 64) (hnw : nw <= 4096) (H : CoL K t L.lo) (HG : CoG K L.g) (hM : K.M <= 4096) :
  ZAH Tryz.prog 279 (cohG K m nt nw (K.no t) hs L s) 13 [.l (.p 0 0 0 0), .l (.p 4 4 t 0), .l (.v (.int .i64 ta)), .l (.v (.int .i64 now))] fun x h k =>
   x = didO (ZFO K t L (coGs K nw t ta now L s)).1 /\ k = 13 /\ h = cohG K m nt nw (K.no t) hs (ZFO K t L (coGs K nw t ta now L s)).2.1 (ZFO K t L (coGs K nw t ta now L s)).2.2 := by
 have hc := H.c
 have hb := H.b
 have hst := ZHE L.g 8 nt nw ta (K.no t : Int) now hs s hta hnt (by omega) hnw HG.ok
 rw [HG.T] at hst
 unfold ZFO
 change ZDq _ _ _ _ _ _ (fun x h k => x = didO (coGs K nw t ta now L s).1 /\ k = 2 /\ h = [(0, some (.ob [1] ((coGs K nw t ta now L s).2.1.R 8))), (1, some (ZBO nt nw hs (coGs K nw t ta now L s).2.2))]) at hst
 generalize coGs K nw t ta now L s = r at hst ⊢
 have hcl := ZGB K m nt nw t ta now hs ⟨L.ss, L.td, L.pa, r.2.1, L.lo⟩ r.2.2 ht hm hta hnt hnw H
 by_cases e1 : r.1.e = 3
 ·simp only [e1, decide_true, pick]
  generalize ZHG K t ⟨L.ss, L.td, L.pa, r.2.1, L.lo⟩ = L2 at hcl ⊢
  generalize hcc : K.no t = c at *
  have hci : (c : Int) < 8 := by omega
  rcases (show c = 0 \/ c = 1 \/ c = 2 \/ c = 3 \/ c = 4 \/ c = 5 \/ c = 6 \/ c = 7 by omega) with rfl | rfl | rfl | rfl | rfl | rfl | rfl | rfl
  all_goals
   refine sE Tryz.func279 ic279_eq [.ca 8 4] fun G hP hA => ?_
   unfold evF ic279
   conv => whnf
   (repeat (first | (rw [hcc]) | (((refine ZDx hP hcl [0, 1, 2, 3, 4, 5, 6, 7, 8, 9, 10, 11, 12] rfl rfl rfl (by exact ZAD) rfl rfl ?_); conv => whnf)) | ((first | refine aI ?_ | refine a64 ?_ | refine a32 ?_ | refine dY ?_ | refine dN ?_ | refine ZAE ?_ | refine dI hP ?_); conv => whnf) | (refine And.intro (by (conv => whnf); first | exact ⟨rfl, rfl, rfl⟩ | (refine And.intro (by (first | omega | assumption | (simp only [ZAI]; omega) | (simp [ZAI]; omega))) ?_; (conv => whnf); first | exact ⟨rfl, rfl, rfl⟩ | (refine ⟨?_, ?_, ?_⟩ <;> first | rfl | (rw [ZAF]; first | done | rfl) | (rw [hcc]; first | done | rfl))) | (refine ⟨?_, ?_, ?_⟩ <;> first | rfl | (rw [ZAF]; first | done | rfl) | (rw [hcc]; first | done | rfl))) ?_; conv => whnf) | rw [natI] | rw [ZAF] | ((first | refine ZAm hP hst ?_ | refine ZAh hP hst ?_); (conv => whnf); refine zA ?_; conv => whnf) | (refine arW ?_; conv => whnf)))
   (refine ZAC ?_; conv => whnf); exact zF
 ·simp only [e1, decide_false, pick]
  generalize hcc : K.no t = c at *
  have hci : (c : Int) < 8 := by omega
  rcases (show c = 0 \/ c = 1 \/ c = 2 \/ c = 3 \/ c = 4 \/ c = 5 \/ c = 6 \/ c = 7 by omega) with rfl | rfl | rfl | rfl | rfl | rfl | rfl | rfl
  all_goals
   refine sE Tryz.func279 ic279_eq [.ca 8 4] fun G hP hA => ?_
   unfold evF ic279
   conv => whnf
   (repeat (first | (rw [hcc]) | ((first | refine aI ?_ | refine a64 ?_ | refine a32 ?_ | refine dY ?_ | refine dN ?_ | refine ZAE ?_ | refine dI hP ?_); conv => whnf) | (refine And.intro (by (conv => whnf); first | exact ⟨rfl, rfl, rfl⟩ | (refine And.intro (by (first | omega | assumption | (simp only [ZAI]; omega) | (simp [ZAI]; omega))) ?_; (conv => whnf); first | exact ⟨rfl, rfl, rfl⟩ | (refine ⟨?_, ?_, ?_⟩ <;> first | rfl | (rw [ZAF]; first | done | rfl) | (rw [hcc]; first | done | rfl))) | (refine ⟨?_, ?_, ?_⟩ <;> first | rfl | (rw [ZAF]; first | done | rfl) | (rw [hcc]; first | done | rfl))) ?_; conv => whnf) | rw [natI] | rw [ZAF] | ((first | refine ZAm hP hst ?_ | refine ZAh hP hst ?_); (conv => whnf); refine zA ?_; conv => whnf) | (refine arW ?_; conv => whnf)))
   (refine ZAC ?_; conv => whnf); exact zF
theorem ZHt (K : CK) (m nt nw t ta : Nat) (now : Int) (hs : Nat -> Int) (L : CO) (s : PS) (ht : t < m) (hm : m <= 64) (hta : ta < nt) (hnt : nt <= 64) (hnw : nw <= 4096) (H : CoL K t L.lo) :
  ZAH Tryz.prog 273 (cohG K m nt nw (K.no t) hs L s) 13 [.l (.p 0 0 0 0), .l (.p 4 4 t 0), .l (.v (.int .i64 3))] fun x h k =>
   x = .t [] /\ k = 13 /\ h = cohG K m nt nw (K.no t) hs ⟨L.ss, updN L.td t 274, L.pa, L.g, L.lo⟩ s := by
 have hc := H.c
 have hb := H.b
 generalize hcc : K.no t = c at *
 have hci : (c : Int) < 8 := by omega
 rcases (show c = 0 \/ c = 1 \/ c = 2 \/ c = 3 \/ c = 4 \/ c = 5 \/ c = 6 \/ c = 7 by omega) with rfl | rfl | rfl | rfl | rfl | rfl | rfl | rfl
 all_goals
  refine sE Tryz.func273 ic273_eq [] fun G hP hA => ?_
  unfold evF ic273
  conv => whnf
  (repeat (first | (rw [hcc]) | ((first | refine aI ?_ | refine a64 ?_ | refine a32 ?_ | refine dY ?_ | refine dN ?_ | refine ZAE ?_ | refine dI hP ?_); conv => whnf) | (refine And.intro (by (conv => whnf); first | exact ⟨rfl, rfl, rfl⟩ | (refine And.intro (by (first | omega | assumption | (simp only [ZAI]; omega) | (simp [ZAI]; omega))) ?_; (conv => whnf); first | exact ⟨rfl, rfl, rfl⟩ | (refine ⟨?_, ?_, ?_⟩ <;> first | rfl | (rw [ZAF]; first | done | rfl) | (rw [hcc]; first | done | rfl))) | (refine ⟨?_, ?_, ?_⟩ <;> first | rfl | (rw [ZAF]; first | done | rfl) | (rw [hcc]; first | done | rfl))) ?_; conv => whnf) | rw [natI] | rw [ZAF] | (refine arW ?_; conv => whnf)))
  (refine ZAC ?_; conv => whnf); refine ⟨rfl, rfl, rfl, ?_, ?_, rfl⟩
  ·rfl
  ·exact ⟨ZAD, rfl, ZAD, ZAD, ⟨rfl, rfl, fun j hj => by simp only [Nat.zero_add, ZA2, ZBK, ZBL, ZA3, ZA4, ZA5, ZBM, ZAw, ZA6, ZBc, ZBd, ZEz, ZE0, ZA8]⟩, ZAD, ZAD, ZAD, ZAD, ZAD, ZAD, ZAD, ZAD, trivial⟩
theorem ZHu (K : CK) (m nt nw t ta : Nat) (now : Int) (hs : Nat -> Int) (L : CO) (s : PS) (ht : t < m) (hm : m <= 64) (hta : ta < nt) (hnt : nt <= 64) (hnw : nw <= 4096) (H : CoL K t L.lo) :
  ZAH Tryz.prog 273 (cohG K m nt nw (K.no t) hs L s) 13 [.l (.p 0 0 0 0), .l (.p 4 4 t 0), .l (.v (.int .i64 1))] fun x h k =>
   x = .t [] /\ k = 13 /\ h = cohG K m nt nw (K.no t) hs ⟨L.ss, updN L.td t 275, L.pa, L.g, updK L.lo (K.no t) (k1Lk (K.cn (K.no t)) (L.lo (K.no t)) (K.inn t))⟩ s := by
 have hc := H.c
 have hb := H.b
 have hlk := ZNP (L.lo (K.no t)) (K.cn (K.no t)) (K.inn t) (-1) H.cn
 rw [H.T] at hlk
 generalize hcc : K.no t = c at *
 have hci : (c : Int) < 8 := by omega
 rcases (show c = 0 \/ c = 1 \/ c = 2 \/ c = 3 \/ c = 4 \/ c = 5 \/ c = 6 \/ c = 7 by omega) with rfl | rfl | rfl | rfl | rfl | rfl | rfl | rfl
 all_goals
  refine sE Tryz.func273 ic273_eq [] fun G hP hA => ?_
  unfold evF ic273
  conv => whnf
  (repeat (first | (rw [hcc]) | ((first | refine aI ?_ | refine a64 ?_ | refine a32 ?_ | refine dY ?_ | refine dN ?_ | refine ZAE ?_ | refine dI hP ?_); conv => whnf) | (refine And.intro (by (conv => whnf); first | exact ⟨rfl, rfl, rfl⟩ | (refine And.intro (by (first | omega | assumption | (simp only [ZAI]; omega) | (simp [ZAI]; omega))) ?_; (conv => whnf); first | exact ⟨rfl, rfl, rfl⟩ | (refine ⟨?_, ?_, ?_⟩ <;> first | rfl | (rw [ZAF]; first | done | rfl) | (rw [hcc]; first | done | rfl))) | (refine ⟨?_, ?_, ?_⟩ <;> first | rfl | (rw [ZAF]; first | done | rfl) | (rw [hcc]; first | done | rfl))) ?_; conv => whnf) | rw [natI] | rw [ZAF] | ((first | refine ZAm hP hlk ?_ | refine ZAh hP hlk ?_); (conv => whnf); refine zA ?_; conv => whnf) | (refine arW ?_; conv => whnf)))
  (refine ZAC ?_; conv => whnf); refine ⟨rfl, rfl, rfl, ?_, ?_, rfl⟩
  ·rfl
  ·exact ⟨ZAD, rfl, ZAD, ZAD, ⟨rfl, rfl, fun j hj => by simp only [Nat.zero_add, ZA2, ZBK, ZBL, ZA3, ZA4, ZA5, ZBM, ZAw, ZA6, ZBc, ZBd, ZEz, ZE0, ZA8]⟩, ZAD, ZAD, ZAD, ZAD, ZAD, ZAD, ZAD, ZAD, trivial⟩
theorem ZAV.has {h h' : Heap} {n : Nat} (hall : ZBS id h h') : ZAV h n h' n := by
 have get : ∀ k e, hget h' k = some e -> ∃ e', hget h k = some e' /\ ZCY id e' e := fun k e hk => hall.get (ZAo hk)
 refine ⟨Nat.le_refl _, fun ρ φ w hm => ⟨ρ, φ, fun _ _ => rfl, ⟨fun k e hk => ?_, fun k e hk => ?_, fun k k' e e' hk hk' hne ho b hb hb' => ?_, fun k e hk b hb => ?_⟩, fun k e hk ho b hb => ?_, fun k e hk b hb => ?_⟩⟩
 ·obtain ⟨e', h1, h2⟩ := get k e hk
  exact ZCY.at_ (ι := id) h2 (fun _ h => h) (hm.at_ k e' h1)
 ·obtain ⟨e', h1, h2⟩ := get k e hk
  exact hm.lt k e' h1
 ·obtain ⟨e1, h1, h2⟩ := get k e hk
  obtain ⟨e2, h3, h4⟩ := get k' e' hk'
  exact hm.dj k k' e1 e2 h1 h3 hne (h2.own ho) b hb hb'
 ·obtain ⟨e', h1, h2⟩ := get k e hk
  exact hm.sz k e' h1 b hb
 ·obtain ⟨e', h1, h2⟩ := get k e hk
  exact ⟨k, e', h1, h2.own ho, hb⟩
 ·obtain ⟨e', h1, h2⟩ := get k e hk
  exact ⟨k, e', h1, hb⟩
theorem ZPd (K : CK) (m nt nw c : Nat) (hs : Nat -> Int) (L : CO) (s : PS) (hc : c < 8) (hb : K.b c = true) : ZAV (cohG K m nt nw 8 hs L s) 13 (cohG K m nt nw c hs L s) 13 := by
 rcases (show c = 0 \/ c = 1 \/ c = 2 \/ c = 3 \/ c = 4 \/ c = 5 \/ c = 6 \/ c = 7 by omega) with rfl | rfl | rfl | rfl | rfl | rfl | rfl | rfl
 ·exact (ZAV.cell 0 5 (.i K.lT 5) (x := .io (K.b 0) K.lT 5) rfl rfl (fun ρ => by simp [LV.at, ioC, hb]) (fun ρ h => h)).trans (ZAV.has ⟨ZAD, rfl, ZAD, ZAD, ZAD, ⟨rfl, .inr ⟨fun ls => K1.stable _ _ ls, fun ls l F w h => h.1 hb⟩⟩, ZAD, ZAD, ZAD, ZAD, ZAD, ZAD, ZAD, trivial⟩)
 ·exact (ZAV.cell 0 6 (.i K.lT 6) (x := .io (K.b 1) K.lT 6) rfl rfl (fun ρ => by simp [LV.at, ioC, hb]) (fun ρ h => h)).trans (ZAV.has ⟨ZAD, rfl, ZAD, ZAD, ZAD, ZAD, ⟨rfl, .inr ⟨fun ls => K1.stable _ _ ls, fun ls l F w h => h.1 hb⟩⟩, ZAD, ZAD, ZAD, ZAD, ZAD, ZAD, trivial⟩)
 ·exact (ZAV.cell 0 7 (.i K.lT 7) (x := .io (K.b 2) K.lT 7) rfl rfl (fun ρ => by simp [LV.at, ioC, hb]) (fun ρ h => h)).trans (ZAV.has ⟨ZAD, rfl, ZAD, ZAD, ZAD, ZAD, ZAD, ⟨rfl, .inr ⟨fun ls => K1.stable _ _ ls, fun ls l F w h => h.1 hb⟩⟩, ZAD, ZAD, ZAD, ZAD, ZAD, trivial⟩)
 ·exact (ZAV.cell 0 8 (.i K.lT 8) (x := .io (K.b 3) K.lT 8) rfl rfl (fun ρ => by simp [LV.at, ioC, hb]) (fun ρ h => h)).trans (ZAV.has ⟨ZAD, rfl, ZAD, ZAD, ZAD, ZAD, ZAD, ZAD, ⟨rfl, .inr ⟨fun ls => K1.stable _ _ ls, fun ls l F w h => h.1 hb⟩⟩, ZAD, ZAD, ZAD, ZAD, trivial⟩)
 ·exact (ZAV.cell 0 9 (.i K.lT 9) (x := .io (K.b 4) K.lT 9) rfl rfl (fun ρ => by simp [LV.at, ioC, hb]) (fun ρ h => h)).trans (ZAV.has ⟨ZAD, rfl, ZAD, ZAD, ZAD, ZAD, ZAD, ZAD, ZAD, ⟨rfl, .inr ⟨fun ls => K1.stable _ _ ls, fun ls l F w h => h.1 hb⟩⟩, ZAD, ZAD, ZAD, trivial⟩)
 ·exact (ZAV.cell 0 10 (.i K.lT 10) (x := .io (K.b 5) K.lT 10) rfl rfl (fun ρ => by simp [LV.at, ioC, hb]) (fun ρ h => h)).trans (ZAV.has ⟨ZAD, rfl, ZAD, ZAD, ZAD, ZAD, ZAD, ZAD, ZAD, ZAD, ⟨rfl, .inr ⟨fun ls => K1.stable _ _ ls, fun ls l F w h => h.1 hb⟩⟩, ZAD, ZAD, trivial⟩)
 ·exact (ZAV.cell 0 11 (.i K.lT 11) (x := .io (K.b 6) K.lT 11) rfl rfl (fun ρ => by simp [LV.at, ioC, hb]) (fun ρ h => h)).trans (ZAV.has ⟨ZAD, rfl, ZAD, ZAD, ZAD, ZAD, ZAD, ZAD, ZAD, ZAD, ZAD, ⟨rfl, .inr ⟨fun ls => K1.stable _ _ ls, fun ls l F w h => h.1 hb⟩⟩, ZAD, trivial⟩)
 ·exact (ZAV.cell 0 12 (.i K.lT 12) (x := .io (K.b 7) K.lT 12) rfl rfl (fun ρ => by simp [LV.at, ioC, hb]) (fun ρ h => h)).trans (ZAV.has ⟨ZAD, rfl, ZAD, ZAD, ZAD, ZAD, ZAD, ZAD, ZAD, ZAD, ZAD, ZAD, ⟨rfl, .inr ⟨fun ls => K1.stable _ _ ls, fun ls l F w h => h.1 hb⟩⟩, trivial⟩)
theorem ZOd (K : CK) (m nt nw c : Nat) (hs : Nat -> Int) (L : CO) (s : PS) (hc : c < 8) (hb : K.b c = true) : ZAV (cohG K m nt nw c hs L s) 13 (cohG K m nt nw 8 hs L s) 13 := by
 rcases (show c = 0 \/ c = 1 \/ c = 2 \/ c = 3 \/ c = 4 \/ c = 5 \/ c = 6 \/ c = 7 by omega) with rfl | rfl | rfl | rfl | rfl | rfl | rfl | rfl
 ·exact (ZAV.cell 0 5 (.io (K.b 0) K.lT 5) (x := .i K.lT 5) rfl rfl (fun ρ => by simp [LV.at, ioC, hb]) (fun ρ h => h)).trans (ZAV.has ⟨ZAD, rfl, ZAD, ZAD, ZAD, ⟨rfl, .inr ⟨fun ls => ZAM (fun ls => K1.stable _ _ ls) ls, fun ls l F w h => ZBA hb h⟩⟩, ZAD, ZAD, ZAD, ZAD, ZAD, ZAD, ZAD, trivial⟩)
 ·exact (ZAV.cell 0 6 (.io (K.b 1) K.lT 6) (x := .i K.lT 6) rfl rfl (fun ρ => by simp [LV.at, ioC, hb]) (fun ρ h => h)).trans (ZAV.has ⟨ZAD, rfl, ZAD, ZAD, ZAD, ZAD, ⟨rfl, .inr ⟨fun ls => ZAM (fun ls => K1.stable _ _ ls) ls, fun ls l F w h => ZBA hb h⟩⟩, ZAD, ZAD, ZAD, ZAD, ZAD, ZAD, trivial⟩)
 ·exact (ZAV.cell 0 7 (.io (K.b 2) K.lT 7) (x := .i K.lT 7) rfl rfl (fun ρ => by simp [LV.at, ioC, hb]) (fun ρ h => h)).trans (ZAV.has ⟨ZAD, rfl, ZAD, ZAD, ZAD, ZAD, ZAD, ⟨rfl, .inr ⟨fun ls => ZAM (fun ls => K1.stable _ _ ls) ls, fun ls l F w h => ZBA hb h⟩⟩, ZAD, ZAD, ZAD, ZAD, ZAD, trivial⟩)
 ·exact (ZAV.cell 0 8 (.io (K.b 3) K.lT 8) (x := .i K.lT 8) rfl rfl (fun ρ => by simp [LV.at, ioC, hb]) (fun ρ h => h)).trans (ZAV.has ⟨ZAD, rfl, ZAD, ZAD, ZAD, ZAD, ZAD, ZAD, ⟨rfl, .inr ⟨fun ls => ZAM (fun ls => K1.stable _ _ ls) ls, fun ls l F w h => ZBA hb h⟩⟩, ZAD, ZAD, ZAD, ZAD, trivial⟩)
 ·exact (ZAV.cell 0 9 (.io (K.b 4) K.lT 9) (x := .i K.lT 9) rfl rfl (fun ρ => by simp [LV.at, ioC, hb]) (fun ρ h => h)).trans (ZAV.has ⟨ZAD, rfl, ZAD, ZAD, ZAD, ZAD, ZAD, ZAD, ZAD, ⟨rfl, .inr ⟨fun ls => ZAM (fun ls => K1.stable _ _ ls) ls, fun ls l F w h => ZBA hb h⟩⟩, ZAD, ZAD, ZAD, trivial⟩)
 ·exact (ZAV.cell 0 10 (.io (K.b 5) K.lT 10) (x := .i K.lT 10) rfl rfl (fun ρ => by simp [LV.at, ioC, hb]) (fun ρ h => h)).trans (ZAV.has ⟨ZAD, rfl, ZAD, ZAD, ZAD, ZAD, ZAD, ZAD, ZAD, ZAD, ⟨rfl, .inr ⟨fun ls => ZAM (fun ls => K1.stable _ _ ls) ls, fun ls l F w h => ZBA hb h⟩⟩, ZAD, ZAD, trivial⟩)
 ·exact (ZAV.cell 0 11 (.io (K.b 6) K.lT 11) (x := .i K.lT 11) rfl rfl (fun ρ => by simp [LV.at, ioC, hb]) (fun ρ h => h)).trans (ZAV.has ⟨ZAD, rfl, ZAD, ZAD, ZAD, ZAD, ZAD, ZAD, ZAD, ZAD, ZAD, ⟨rfl, .inr ⟨fun ls => ZAM (fun ls => K1.stable _ _ ls) ls, fun ls l F w h => ZBA hb h⟩⟩, ZAD, trivial⟩)
 ·exact (ZAV.cell 0 12 (.io (K.b 7) K.lT 12) (x := .i K.lT 12) rfl rfl (fun ρ => by simp [LV.at, ioC, hb]) (fun ρ h => h)).trans (ZAV.has ⟨ZAD, rfl, ZAD, ZAD, ZAD, ZAD, ZAD, ZAD, ZAD, ZAD, ZAD, ZAD, ⟨rfl, .inr ⟨fun ls => ZAM (fun ls => K1.stable _ _ ls) ls, fun ls l F w h => ZBA hb h⟩⟩, trivial⟩)
theorem ZBZ {K : CK} {m nt nw c : Nat} {hs : Nat -> Int} {L L2 : CO} {s s2 : PS} {f : FuncId} {args : List AV} {X : SV} (hc : c < 8) (hb : K.b c = true)
  (h : ZAH Tryz.prog f (cohG K m nt nw c hs L s) 13 args fun x h k => x = X /\ k = 13 /\ h = cohG K m nt nw c hs L2 s2) : ZAH Tryz.prog f (cohG K m nt nw 8 hs L s) 13 args fun x h k => x = X /\ k = 13 /\ h = cohG K m nt nw 8 hs L2 s2 := by
 refine ZAH.refin (ZAH.ghost (ZPd K m nt nw c hs L s hc hb) h) ?_
 rintro x h k ⟨rfl, rfl, rfl⟩ _
 refine ZBF (ZOd K m nt nw c hs L2 s2 hc hb) (Nat.le_refl _) ?_
 exact ⟨fun ρ φ w hm hok => ⟨_, _, _, ρ, φ, rfl, ⟨rfl, rfl, rfl⟩, Nat.le_refl _, fun k hk => ⟨hk, rfl⟩, hm, hok, fun k e hk ho b hb => ⟨k, e, hk, ho, hb⟩⟩⟩
def ZHv (t : Nat) (r : Dd × CO × PS) : Dd × CO × PS := (r.1, ⟨enSS r.2.1.ss t r.1.e, pick (enB r.2.1.ss.st t r.1.e) (updN r.2.1.td t 0) r.2.1.td, r.2.1.pa, r.2.1.g, r.2.1.lo⟩, r.2.2)
def ZDX (K : CK) (m nw : Nat) (t : Int) (ta : Nat) (now : Int) (L : CO) (s : PS) : Dd × CO × PS :=
 match inW m t with
 | false => (evD 0, L, s)
 | true => pick (decide (L.ss.st t.toNat = 1) || decide (L.ss.st t.toNat = 3)) (ZHv t.toNat (ZKG K nw t.toNat ta now (pick (decide (L.td t.toNat = 0)) (ZF7 K t.toNat L) L) s)) (evD 0, L, s)
def tdOk (f : Nat) : Prop := f = 275 \/ f = 278 \/ f = 281 \/ f = 283 \/ f = 274 \/ f = 277 \/ f = 280 \/ f = 276 \/ f = 279 \/ f = 284
structure CoOk (K : CK) (m : Nat) (L : CO) : Prop where
 l : ∀ t, t < m -> CoL K t L.lo
 g : CoG K L.g
 M : K.M <= 4096
 td : ∀ t, t < m -> L.td t = 0 \/ tdOk (L.td t)
theorem ZFP (K : CK) (m nt nw t ta : Nat) (now : Int) (hs : Nat -> Int) (L : CO) (s : PS) (ht : t < m) (hm : m <= 64) (hta : ta < nt) (hnt : nt <= 64) (hnw : nw <= 4096) (H : CoL K t L.lo) (HG : CoG K L.g) (hM : K.M <= 4096) (f : Nat) (hf : L.td t = f) (hv : tdOk f) :
  ZAH Tryz.prog f (cohG K m nt nw 8 hs L s) 13 [.l (.p 0 0 0 0), .l (.p 4 4 t 0), .l (.v (.int .i64 ta)), .l (.v (.int .i64 now))] fun x h k => x = didO (ZKG K nw t ta now L s).1 /\ k = 13 /\ h = cohG K m nt nw 8 hs (ZKG K nw t ta now L s).2.1 (ZKG K nw t ta now L s).2.2 := by
 unfold ZKG
 rcases hv with rfl | rfl | rfl | rfl | rfl | rfl | rfl | rfl | rfl | rfl
 ·simp only [hf, decide_true, decide_false, pick]
  exact ZBZ H.c H.b (ZI1 K m nt nw t ta now hs L s ht hm hta hnt hnw H HG hM)
 ·simp only [hf, show ¬ 278 = 275 by decide, decide_true, decide_false, pick]
  exact ZBZ H.c H.b (ZKH K m nt nw t ta now hs L s ht hm hta hnt hnw H HG hM)
 ·simp only [hf, show ¬ 281 = 275 by decide, show ¬ 281 = 278 by decide, decide_true, decide_false, pick]
  exact ZBZ H.c H.b (ZKI K m nt nw t ta now hs L s ht hm hta hnt hnw H HG hM)
 ·simp only [hf, show ¬ 283 = 275 by decide, show ¬ 283 = 278 by decide, show ¬ 283 = 281 by decide, decide_true, decide_false, pick]
  exact ZBZ H.c H.b (ZI2 K m nt nw t ta now hs L s ht hm hta hnt hnw H HG hM)
 ·simp only [hf, show ¬ 274 = 275 by decide, show ¬ 274 = 278 by decide, show ¬ 274 = 281 by decide, show ¬ 274 = 283 by decide, decide_true, decide_false, pick]
  exact ZBZ H.c H.b (ZI3 K m nt nw t ta now hs L s ht hm hta hnt hnw H HG hM)
 ·simp only [hf, show ¬ 277 = 275 by decide, show ¬ 277 = 278 by decide, show ¬ 277 = 281 by decide, show ¬ 277 = 283 by decide, show ¬ 277 = 274 by decide, decide_true, decide_false, pick]
  exact ZBZ H.c H.b (ZI4 K m nt nw t ta now hs L s ht hm hta hnt hnw H HG hM)
 ·simp only [hf, show ¬ 280 = 275 by decide, show ¬ 280 = 278 by decide, show ¬ 280 = 281 by decide, show ¬ 280 = 283 by decide, show ¬ 280 = 274 by decide, show ¬ 280 = 277 by decide, decide_true, decide_false, pick]
  exact ZBZ H.c H.b (ZKJ K m nt nw t ta now hs L s ht hm hta hnt hnw H HG hM)
 ·simp only [hf, show ¬ 276 = 275 by decide, show ¬ 276 = 278 by decide, show ¬ 276 = 281 by decide, show ¬ 276 = 283 by decide, show ¬ 276 = 274 by decide, show ¬ 276 = 277 by decide, show ¬ 276 = 280 by decide, decide_true, decide_false, pick]
  exact ZBZ H.c H.b (ZHs K m nt nw t ta now hs L s ht hm hta hnt hnw H HG hM)
 ·simp only [hf, show ¬ 279 = 275 by decide, show ¬ 279 = 278 by decide, show ¬ 279 = 281 by decide, show ¬ 279 = 283 by decide, show ¬ 279 = 274 by decide, show ¬ 279 = 277 by decide, show ¬ 279 = 280 by decide, show ¬ 279 = 276 by decide, decide_true, decide_false, pick]
  exact ZBZ H.c H.b (ZI5 K m nt nw t ta now hs L s ht hm hta hnt hnw H HG hM)
 ·simp only [hf, show ¬ 284 = 275 by decide, show ¬ 284 = 278 by decide, show ¬ 284 = 281 by decide, show ¬ 284 = 283 by decide, show ¬ 284 = 274 by decide, show ¬ 284 = 277 by decide, show ¬ 284 = 280 by decide, show ¬ 284 = 276 by decide, show ¬ 284 = 279 by decide, decide_true, decide_false, pick]
  exact ZBZ H.c H.b (ZLz K m nt nw t ta now hs L s ht hm hta hnt hnw H HG hM)
theorem ZNR (K : CK) (m nt nw t ta : Nat) (now : Int) (hs : Nat -> Int) (L : CO) (s : PS) (ht : t < m) (hm : m <= 64) (v : Int) (hv : L.ss.st t = v) (hv2 : v = 1 \/ v = 3) (f : Nat) (hf : L.td t = f + 1) (r : Dd × CO × PS)
  (hrun : ZAH Tryz.prog (f + 1) (cohG K m nt nw 8 hs L s) 13 [.l (.p 0 0 0 0), .l (.p 4 4 t 0), .l (.v (.int .i64 ta)), .l (.v (.int .i64 now))] fun x h k => x = didO r.1 /\ k = 13 /\ h = cohG K m nt nw 8 hs r.2.1 r.2.2) :
  ZAH Tryz.prog 271 (cohG K m nt nw 8 hs L s) 13 [.l (.p 0 0 0 0), .l (.v (.int .i64 t)), .l (.v (.int .i64 ta)), .l (.v (.int .i64 now))] fun x h k =>
   x = didO (ZHv t r).1 /\ k = 13 /\ h = cohG K m nt nw 8 hs (ZHv t r).2.1 (ZHv t r).2.2 := by
 have hst := ZBC m L.ss.st L.ss.dl false false t ht hm
 rw [hv] at hst
 have hen := ZAa m r.2.1.ss.st r.2.1.ss.dl false false t r.1.e ht hm
 refine sE Tryz.func271 ic271_eq [.ca 8 4] fun G hP hA => ?_
 unfold evF ic271 ZHv
 cases eb : enB r.2.1.ss.st t r.1.e with
 | true =>
  rw [eb] at hen
  simp only [pick]
  rcases hv2 with rfl | rfl
  all_goals
   conv => whnf
   (repeat (first | (rw [hf]) | (((refine ZDx hP hrun [0, 1, 2, 3, 4, 5, 6, 7, 8, 9, 10, 11, 12] rfl rfl rfl (by exact ZAD) rfl rfl ?_); conv => whnf)) | ((first | refine aI ?_ | refine a64 ?_ | refine a32 ?_ | refine dY ?_ | refine dN ?_ | refine ZAE ?_ | refine dI hP ?_); conv => whnf) | (refine And.intro (by (conv => whnf); first | exact ⟨rfl, rfl, rfl⟩ | (refine And.intro (by (first | omega | assumption | (simp only [ZAI]; omega) | (simp [ZAI]; omega))) ?_; (conv => whnf); first | exact ⟨rfl, rfl, rfl⟩ | (refine ⟨?_, ?_, ?_⟩ <;> first | rfl | (rw [ZAF]; first | done | rfl) | (rw [hf]; first | done | rfl))) | (refine ⟨?_, ?_, ?_⟩ <;> first | rfl | (rw [ZAF]; first | done | rfl) | (rw [hf]; first | done | rfl))) ?_; conv => whnf) | rw [natI] | rw [ZAF] | ((first | refine ZAA hP hst ?_ | refine ZAB hP hst ?_ | refine ZAA hP hen ?_ | refine ZAB hP hen ?_); (conv => whnf); refine zA ?_; conv => whnf) | (refine arW ?_; conv => whnf)))
   (refine ZAC ?_; conv => whnf); refine ⟨rfl, rfl, rfl, ?_, ?_, rfl⟩
   ·rfl
   ·exact ⟨ZAD, rfl, ZAD, ZAD, ⟨rfl, rfl, fun j hj => by simp only [Nat.zero_add, ZA2, ZBK, ZBL, ZA3, ZA4, ZA5, ZBM, ZAw, ZA6, ZBc, ZBd, ZEz, ZE0, ZA8]⟩, ZAD, ZAD, ZAD, ZAD, ZAD, ZAD, ZAD, ZAD, trivial⟩
 | false =>
  rw [eb] at hen
  simp only [pick]
  rcases hv2 with rfl | rfl
  all_goals
   conv => whnf
   (repeat (first | (rw [hf]) | (((refine ZDx hP hrun [0, 1, 2, 3, 4, 5, 6, 7, 8, 9, 10, 11, 12] rfl rfl rfl (by exact ZAD) rfl rfl ?_); conv => whnf)) | ((first | refine aI ?_ | refine a64 ?_ | refine a32 ?_ | refine dY ?_ | refine dN ?_ | refine ZAE ?_ | refine dI hP ?_); conv => whnf) | (refine And.intro (by (conv => whnf); first | exact ⟨rfl, rfl, rfl⟩ | (refine And.intro (by (first | omega | assumption | (simp only [ZAI]; omega) | (simp [ZAI]; omega))) ?_; (conv => whnf); first | exact ⟨rfl, rfl, rfl⟩ | (refine ⟨?_, ?_, ?_⟩ <;> first | rfl | (rw [ZAF]; first | done | rfl) | (rw [hf]; first | done | rfl))) | (refine ⟨?_, ?_, ?_⟩ <;> first | rfl | (rw [ZAF]; first | done | rfl) | (rw [hf]; first | done | rfl))) ?_; conv => whnf) | rw [natI] | rw [ZAF] | ((first | refine ZAA hP hst ?_ | refine ZAB hP hst ?_ | refine ZAA hP hen ?_ | refine ZAB hP hen ?_); (conv => whnf); refine zA ?_; conv => whnf) | (refine arW ?_; conv => whnf)))
   (refine ZAC ?_; conv => whnf); exact zF
theorem ZFf (K : CK) (m nt nw t ta : Nat) (now : Int) (hs : Nat -> Int) (L L1 : CO) (s : PS) (ht : t < m) (hm : m <= 64) (v : Int) (hv : L.ss.st t = v) (hv2 : v = 1 \/ v = 3) (h0 : L.td t = 0) (f : Nat) (hf : L1.td t = f + 1) (r : Dd × CO × PS)
  (hbg : ZAH Tryz.prog 273 (cohG K m nt nw 8 hs L s) 13 [.l (.p 0 0 0 0), .l (.p 4 4 t 0), .l (.v (.int .i64 v))] fun x h k => x = .t [] /\ k = 13 /\ h = cohG K m nt nw 8 hs L1 s)
  (hrun : ZAH Tryz.prog (f + 1) (cohG K m nt nw 8 hs L1 s) 13 [.l (.p 0 0 0 0), .l (.p 4 4 t 0), .l (.v (.int .i64 ta)), .l (.v (.int .i64 now))] fun x h k => x = didO r.1 /\ k = 13 /\ h = cohG K m nt nw 8 hs r.2.1 r.2.2) :
  ZAH Tryz.prog 271 (cohG K m nt nw 8 hs L s) 13 [.l (.p 0 0 0 0), .l (.v (.int .i64 t)), .l (.v (.int .i64 ta)), .l (.v (.int .i64 now))] fun x h k =>
   x = didO (ZHv t r).1 /\ k = 13 /\ h = cohG K m nt nw 8 hs (ZHv t r).2.1 (ZHv t r).2.2 := by
 have hst := ZBC m L.ss.st L.ss.dl false false t ht hm
 rw [hv] at hst
 have hen := ZAa m r.2.1.ss.st r.2.1.ss.dl false false t r.1.e ht hm
 refine sE Tryz.func271 ic271_eq [.ca 8 4] fun G hP hA => ?_
 unfold evF ic271 ZHv
 cases eb : enB r.2.1.ss.st t r.1.e with
 | true =>
  rw [eb] at hen
  simp only [pick]
  rcases hv2 with rfl | rfl
  all_goals
   conv => whnf
   (repeat (first | (rw [h0]) | (rw [hf]) | (((refine ZDx hP hbg [0, 1, 2, 3, 4, 5, 6, 7, 8, 9, 10, 11, 12] rfl rfl rfl (by exact ZAD) rfl rfl ?_); conv => whnf)) | (((refine ZDx hP hrun [0, 1, 2, 3, 4, 5, 6, 7, 8, 9, 10, 11, 12] rfl rfl rfl (by exact ZAD) rfl rfl ?_); conv => whnf)) | ((first | refine aI ?_ | refine a64 ?_ | refine a32 ?_ | refine dY ?_ | refine dN ?_ | refine ZAE ?_ | refine dI hP ?_); conv => whnf) | (refine And.intro (by (conv => whnf); first | exact ⟨rfl, rfl, rfl⟩ | (refine And.intro (by (first | omega | assumption | (simp only [ZAI]; omega) | (simp [ZAI]; omega))) ?_; (conv => whnf); first | exact ⟨rfl, rfl, rfl⟩ | (refine ⟨?_, ?_, ?_⟩ <;> first | rfl | (rw [ZAF]; first | done | rfl) | (rw [h0]; first | done | rfl) | (rw [hf]; first | done | rfl))) | (refine ⟨?_, ?_, ?_⟩ <;> first | rfl | (rw [ZAF]; first | done | rfl) | (rw [h0]; first | done | rfl) | (rw [hf]; first | done | rfl))) ?_; conv => whnf) | rw [natI] | rw [ZAF] | ((first | refine ZAA hP hst ?_ | refine ZAB hP hst ?_ | refine ZAA hP hen ?_ | refine ZAB hP hen ?_); (conv => whnf); refine zA ?_; conv => whnf) | (refine arW ?_; conv => whnf)))
   (refine ZAC ?_; conv => whnf); refine ⟨rfl, rfl, rfl, ?_, ?_, rfl⟩
   ·rfl
   ·exact ⟨ZAD, rfl, ZAD, ZAD, ⟨rfl, rfl, fun j hj => by simp only [Nat.zero_add, ZA2, ZBK, ZBL, ZA3, ZA4, ZA5, ZBM, ZAw, ZA6, ZBc, ZBd, ZEz, ZE0, ZA8]⟩, ZAD, ZAD, ZAD, ZAD, ZAD, ZAD, ZAD, ZAD, trivial⟩
 | false =>
  rw [eb] at hen
  simp only [pick]
  rcases hv2 with rfl | rfl
  all_goals
   conv => whnf
   (repeat (first | (rw [h0]) | (rw [hf]) | (((refine ZDx hP hbg [0, 1, 2, 3, 4, 5, 6, 7, 8, 9, 10, 11, 12] rfl rfl rfl (by exact ZAD) rfl rfl ?_); conv => whnf)) | (((refine ZDx hP hrun [0, 1, 2, 3, 4, 5, 6, 7, 8, 9, 10, 11, 12] rfl rfl rfl (by exact ZAD) rfl rfl ?_); conv => whnf)) | ((first | refine aI ?_ | refine a64 ?_ | refine a32 ?_ | refine dY ?_ | refine dN ?_ | refine ZAE ?_ | refine dI hP ?_); conv => whnf) | (refine And.intro (by (conv => whnf); first | exact ⟨rfl, rfl, rfl⟩ | (refine And.intro (by (first | omega | assumption | (simp only [ZAI]; omega) | (simp [ZAI]; omega))) ?_; (conv => whnf); first | exact ⟨rfl, rfl, rfl⟩ | (refine ⟨?_, ?_, ?_⟩ <;> first | rfl | (rw [ZAF]; first | done | rfl) | (rw [h0]; first | done | rfl) | (rw [hf]; first | done | rfl))) | (refine ⟨?_, ?_, ?_⟩ <;> first | rfl | (rw [ZAF]; first | done | rfl) | (rw [h0]; first | done | rfl) | (rw [hf]; first | done | rfl))) ?_; conv => whnf) | rw [natI] | rw [ZAF] | ((first | refine ZAA hP hst ?_ | refine ZAB hP hst ?_ | refine ZAA hP hen ?_ | refine ZAB hP hen ?_); (conv => whnf); refine zA ?_; conv => whnf) | (refine arW ?_; conv => whnf)))
   (refine ZAC ?_; conv => whnf); exact zF
theorem ZI6 (K : CK) (m nt nw ta : Nat) (t now v : Int) (hs : Nat -> Int) (L : CO) (s : PS) (hv : stV m L.ss.st t = v) (h1 : ¬ v = 1) (h3 : ¬ v = 3) :
  ZAH Tryz.prog 271 (cohG K m nt nw 8 hs L s) 13 [.l (.p 0 0 0 0), .l (.v (.int .i64 t)), .l (.v (.int .i64 ta)), .l (.v (.int .i64 now))] fun x h k =>
   x = didO (evD 0) /\ k = 13 /\ h = cohG K m nt nw 8 hs L s := by
 have hst := ZAz m L.ss.st L.ss.dl false false t
 rw [hv] at hst
 refine sE Tryz.func271 ic271_eq [.ca 8 4] fun G hP hA => ?_
 unfold evF ic271
 conv => whnf
 (repeat (first | (refine mS ?_; conv => whnf) | rw [natI] | rw [ZAF] | ((first | refine ZAA hP hst ?_ | refine ZAB hP hst ?_); (conv => whnf); refine zA ?_; conv => whnf) | (refine arW ?_; conv => whnf)))
 (refine ZAC ?_; conv => whnf); exact zF
theorem CoOk.b {K : CK} {m : Nat} {L : CO} (h : CoOk K m L) {t : Nat} (ht : t < m) : K.no t < 8 /\ K.b (K.no t) = true := ⟨(h.l t ht).c, (h.l t ht).b⟩
theorem ZKK (K : CK) (m nt nw ta : Nat) (t now : Int) (hs : Nat -> Int) (L : CO) (s : PS) (hm : m <= 64) (hta : ta < nt) (hnt : nt <= 64) (hnw : nw <= 4096) (H : CoOk K m L)
  (hset : ∀ i, i < m -> (k1Lk (K.cn (K.no i)) (L.lo (K.no i)) (K.inn i)).ok (K.cn (K.no i))) (hsT : ∀ (c : Nat) (S : K1) (t : Int), (k1Lk c S t).T = S.T) :
  ZAH Tryz.prog 271 (cohG K m nt nw 8 hs L s) 13 [.l (.p 0 0 0 0), .l (.v (.int .i64 t)), .l (.v (.int .i64 ta)), .l (.v (.int .i64 now))] fun x h k =>
   x = didO (ZDX K m nw t ta now L s).1 /\ k = 13 /\ h = cohG K m nt nw 8 hs (ZDX K m nw t ta now L s).2.1 (ZDX K m nw t ta now L s).2.2 := by
 unfold ZDX
 rcases ZAt m t with ⟨hb, i, hi, rfl⟩ | ⟨hb, ho⟩
 ·simp only [hb, Int.toNat_natCast]
  have Hl := H.l i hi
  by_cases hv2 : L.ss.st i = 1 \/ L.ss.st i = 3
  ·have e : (decide (L.ss.st i = 1) || decide (L.ss.st i = 3)) = true := by simpa using hv2
   simp only [e, pick]
   rcases H.td i hi with h0 | htd
   ·have tdn : tdOk 275 /\ tdOk 274 := by simp [tdOk]
    rcases hv2 with h1 | h3
    ·have hbg := ZBZ Hl.c Hl.b (ZHu K m nt nw i ta now hs L s hi hm hta hnt hnw Hl)
     simp only [h0, decide_true, ZF7, h1, show ¬ (1 : Int) = 3 by omega, decide_false]
     generalize hL1 : CO.mk L.ss (updN L.td i 275) L.pa L.g (updK L.lo (K.no i) (k1Lk (K.cn (K.no i)) (L.lo (K.no i)) (K.inn i))) = L1 at hbg ⊢
     have hf : L1.td i = 275 := by rw [<- hL1]; simp [updN]
     have Hl1 : CoL K i L1.lo := by
      rw [<- hL1]
      refine ⟨Hl.c, Hl.b, Hl.cn, ?_, ?_⟩
      ·simp only [updK, if_true]; exact hset i hi
      ·simp only [updK, if_true]; rw [hsT]; exact Hl.T
     have Hg1 : CoG K L1.g := by rw [<- hL1]; exact H.g
     exact ZFf K m nt nw i ta now hs L L1 s hi hm 1 h1 (.inl rfl) h0 _ hf _ hbg (ZFP K m nt nw i ta now hs L1 s hi hm hta hnt hnw Hl1 Hg1 H.M _ hf tdn.1)
    ·have hbg := ZBZ Hl.c Hl.b (ZHt K m nt nw i ta now hs L s hi hm hta hnt hnw Hl)
     simp only [h0, decide_true, ZF7, h3]
     generalize hL1 : CO.mk L.ss (updN L.td i 274) L.pa L.g L.lo = L1 at hbg ⊢
     have hf : L1.td i = 274 := by rw [<- hL1]; simp [updN]
     have Hl1 : CoL K i L1.lo := by rw [<- hL1]; exact Hl
     have Hg1 : CoG K L1.g := by rw [<- hL1]; exact H.g
     exact ZFf K m nt nw i ta now hs L L1 s hi hm 3 h3 (.inr rfl) h0 _ hf _ hbg (ZFP K m nt nw i ta now hs L1 s hi hm hta hnt hnw Hl1 Hg1 H.M _ hf tdn.2)
   ·have hn0 : ¬ L.td i = 0 := by
     intro h
     rw [h] at htd
     simp [tdOk] at htd
    obtain ⟨f, hf⟩ : ∃ f, L.td i = f + 1 := ⟨L.td i - 1, by omega⟩
    simp only [hn0, decide_false]
    exact ZNR K m nt nw i ta now hs L s hi hm _ rfl hv2 f hf _ (ZFP K m nt nw i ta now hs L s hi hm hta hnt hnw Hl H.g H.M _ hf (hf ▸ htd))
  ·have e : (decide (L.ss.st i = 1) || decide (L.ss.st i = 3)) = false := by simpa using hv2
   simp only [e, pick]
   refine ZI6 K m nt nw ta i now _ hs L s rfl ?_ ?_
   ·simp only [stV, hb, pick, Int.toNat_natCast]; exact fun h => hv2 (.inl h)
   ·simp only [stV, hb, pick, Int.toNat_natCast]; exact fun h => hv2 (.inr h)
 ·simp only [hb]
  refine ZI6 K m nt nw ta t now _ hs L s rfl ?_ ?_
  ·simp [stV, hb, pick]
  ·simp [stV, hb, pick]
theorem ZAv {α : Type} {P : α -> Prop} (b : Bool) (x y : α) (hx : P x) (hy : P y) : P (pick b x y) := by cases b <;> assumption
def abEx (n E : Nat) (L : AL) : Prop := 1 <= E /\ ∀ t, t < n -> (0 <= L.sp t /\ L.sp t <= 7) /\ (L.ss.st t = 0 -> L.tr t = 0)
def K1.ex (n : Nat) : K1 -> Prop
 | .ab E tail L => abEx n E L
 | _ => True
def K1.inv (n : Nat) (S : K1) : Prop := S.ok n /\ S.ex n
theorem K1.T_step (S : K1) (n nw ta : Nat) (t now : Int) (s : PS) : (S.step n nw t now ta s).2.1.T = S.T := by cases S <;> rfl
theorem K1.T_set (S : K1) (st dl : Nat -> Int) : (S.set st dl).T = S.T := by cases S <;> rfl
theorem ZGC (n E : Nat) (L : AL) (i : Nat) (hE : 1 <= E) (r : Dd × AL × PS) (ho : ∀ t, t < n -> t ≠ i -> r.2.1.ss.st t = L.ss.st t /\ r.2.1.sp t = L.sp t /\ r.2.1.tr t = L.tr t) (hok : abOk n E L) (hx : abEx n E L)
  (hi : 0 <= r.2.1.sp i /\ r.2.1.sp i <= 7) (h1 : enB r.2.1.ss.st i r.1.e = false -> (r.2.1.ss.st i = 1 -> r.2.1.sp i = 0 -> 0 <= r.2.1.tr i /\ r.2.1.tr i < E) /\ (r.2.1.ss.st i = 0 -> r.2.1.tr i = 0)) :
  abOk n E (ZIq i r).2.1 /\ abEx n E (ZIq i r).2.1 := by
 unfold ZIq
 cases eb : enB r.2.1.ss.st i r.1.e with
 | true =>
  simp only [pick]
  have hlt : ¬ ZDv (r.2.1.ss.st i) r.1.e < 0 := by simpa [enB] using eb
  have hst : ∀ t, t ≠ i -> enSt r.2.1.ss.st i r.1.e t = r.2.1.ss.st t := fun t h => by simp [enSt, hlt, pick, updF, h]
  refine ⟨fun t ht hs1 hs0 => ?_, hE, fun t ht => ?_⟩
  ·simp only [enSS] at hs1
   by_cases h : t = i
   ·subst h; simp only [updF, if_true]; omega
   ·simp only [updF, if_neg h] at hs0 ⊢
    rw [hst t h] at hs1
    obtain ⟨a, b, c⟩ := ho t ht h
    rw [a] at hs1; rw [b] at hs0; rw [c]
    exact hok t ht hs1 hs0
  ·by_cases h : t = i
   ·subst h; simp [updF]
   ·simp only [updF, if_neg h, enSS, hst t h]
    obtain ⟨a, b, c⟩ := ho t ht h
    rw [a, b, c]
    exact hx.2 t ht
 | false =>
  simp only [pick]
  have hlt : ZDv (r.2.1.ss.st i) r.1.e < 0 := by simpa [enB] using eb
  have hst : enSt r.2.1.ss.st i r.1.e = r.2.1.ss.st := by simp [enSt, hlt, pick]
  obtain ⟨k1, k2⟩ := h1 eb
  refine ⟨fun t ht hs1 hs0 => ?_, hE, fun t ht => ?_⟩
  ·simp only [enSS, hst] at hs1
   simp only at hs0 ⊢
   by_cases h : t = i
   ·subst h; exact k1 hs1 hs0
   ·obtain ⟨a, b, c⟩ := ho t ht h
    rw [a] at hs1; rw [b] at hs0; rw [c]
    exact hok t ht hs1 hs0
  ·simp only [enSS, hst]
   by_cases h : t = i
   ·subst h; exact ⟨hi, k2⟩
   ·obtain ⟨a, b, c⟩ := ho t ht h
    rw [a, b, c]
    exact hx.2 t ht
def AbGo (n E : Nat) (L : AL) (i : Nat) (r : Dd × AL × PS) : Prop :=
 (∀ t, t < n -> t ≠ i -> r.2.1.ss.st t = L.ss.st t /\ r.2.1.sp t = L.sp t /\ r.2.1.tr t = L.tr t) /\ (0 <= r.2.1.sp i /\ r.2.1.sp i <= 7) /\
  (enB r.2.1.ss.st i r.1.e = false -> (r.2.1.ss.st i = 1 -> r.2.1.sp i = 0 -> 0 <= r.2.1.tr i /\ r.2.1.tr i < E) /\ (r.2.1.ss.st i = 0 -> r.2.1.tr i = 0))
theorem ZOe (n E nw : Nat) (tail : Int) (i ta : Nat) (late : Bool) (L : AL) (s : PS) (hi : i < n) (hok : abOk n E L) (hx : abEx n E L) (hs : L.ss.st i = 1) : AbGo n E L i (abLk E nw tail i ta late L s) := by
 obtain ⟨hsp, _⟩ := hx.2 i hi
 have key : ∀ (d : Dd) (k : Int) (s2 : PS), 1 <= k /\ k <= 7 -> AbGo n E L i (d, abNx L i k, s2) := fun d k s2 hk => by
  refine ⟨fun t ht h => ⟨rfl, by simp [abNx, updF, h], rfl⟩, by simp [abNx, updF]; omega, fun _ => ⟨fun _ h0 => ?_, fun h => ?_⟩⟩
  ·simp [abNx, updF] at h0; omega
  ·simp only [abNx] at h; omega
 have same : ∀ (d : Dd) (s2 : PS), L.sp i ≠ 0 -> AbGo n E L i (d, L, s2) := fun d s2 h => ⟨fun _ _ _ => ⟨rfl, rfl, rfl⟩, hsp, fun _ => ⟨fun _ h0 => absurd h0 h, fun h0 => by simp only at h0; omega⟩⟩
 unfold abLk
 by_cases e0 : L.sp i = 0
 ·have hr := hok i hi hs e0
  simp only [e0, decide_true, pick, abSr]
  refine ⟨fun t ht h => ⟨rfl, ?_, by simp [updF, h]⟩, ?_, fun hb => ⟨fun _ h0 => ?_, fun h => by simp only at h; omega⟩⟩
  ·by_cases ez : rdV nw (i64w (abA tail (abN E i (L.tr i)) + 2)) s = 0 <;> simp [ez, updF, h]
  ·by_cases ez : rdV nw (i64w (abA tail (abN E i (L.tr i)) + 2)) s = 0 <;> simp [ez, updF, e0]
  ·by_cases ez : rdV nw (i64w (abA tail (abN E i (L.tr i)) + 2)) s = 0
   ·simp [ez, updF] at h0
   ·by_cases el : L.tr i + 1 = (E : Int)
    ·simp [ez, el, evD, enB, ZDv, hs, pick] at hb
    ·simp only [updF, if_true]; omega
 by_cases e1 : L.sp i = 1
 ·simp only [Int.reduceEq, e1, decide_true, decide_false, pick]; exact key _ 2 _ (by omega)
 by_cases e2 : L.sp i = 2
 ·simp only [Int.reduceEq, e2, decide_true, decide_false, pick]; exact key _ 3 _ (by omega)
 by_cases e3 : L.sp i = 3
 ·simp only [Int.reduceEq, e3, decide_true, decide_false, pick]; exact key _ 4 _ (by omega)
 by_cases e4 : L.sp i = 4
 ·simp only [Int.reduceEq, e4, decide_true, decide_false, pick]
  refine ⟨fun t ht h => ⟨rfl, ?_, rfl⟩, ?_, fun hb => ⟨fun _ h0 => ?_, fun h => by simp only at h; omega⟩⟩
  ·by_cases ez : i64w (rdV nw tail s) = 0 <;> simp [ez, updF, h]
  ·by_cases ez : i64w (rdV nw tail s) = 0 <;> simp [ez, updF, e4]
  ·by_cases ez : i64w (rdV nw tail s) = 0 <;> simp [ez, updF, e4] at h0
 by_cases e5 : L.sp i = 5
 ·simp only [Int.reduceEq, e5, decide_true, decide_false, pick]; exact key _ 6 _ (by omega)
 by_cases e6 : L.sp i = 6
 ·simp only [Int.reduceEq, e6, decide_true, decide_false, pick]
  cases hb : (decide (rdV nw (abA tail (L.no i)) s = 0) && late) with
  | true => exact key _ 7 _ (by omega)
  | false => exact same _ _ e0
 by_cases e7 : L.sp i = 7
 ·simp only [Int.reduceEq, e7, decide_true, decide_false, pick]
  exact same _ _ e0
 ·exfalso; omega
def AbUl (n : Nat) (L : AL) (i : Nat) (r : Int × AL × PS) : Prop :=
 (∀ t, t < n -> t ≠ i -> r.2.1.ss.st t = L.ss.st t /\ r.2.1.sp t = L.sp t /\ r.2.1.tr t = L.tr t) /\ (0 <= r.2.1.sp i /\ r.2.1.sp i <= 7) /\ r.2.1.ss.st i = 3
theorem ZOf (n E nw : Nat) (tail : Int) (i ta : Nat) (L : AL) (s : PS) (hi : i < n) (hx : abEx n E L) (hs : L.ss.st i = 3) : AbUl n L i (abUl nw tail i ta L s) := by
 obtain ⟨hsp, _⟩ := hx.2 i hi
 have key : ∀ (d : Int) (k : Int) (s2 : PS), 0 <= k /\ k <= 7 -> AbUl n L i (d, abNx L i k, s2) := fun d k s2 hk =>
  ⟨fun t ht h => ⟨rfl, by simp [abNx, updF, h], rfl⟩, by simp [abNx, updF]; omega, hs⟩
 unfold abUl
 cases eb : (decide (L.sp i = 0) || decide (L.sp i = 2)) with
 | true =>
  simp only [pick]
  refine ⟨fun t ht h => ⟨rfl, ?_, rfl⟩, ?_, hs⟩
  ·by_cases ez : i64w (rdV nw (i64w (abA tail (L.no i) + 1)) s) = 0 <;> by_cases e0 : L.sp i = 0 <;> simp [ez, e0, updF, h]
  ·by_cases ez : i64w (rdV nw (i64w (abA tail (L.no i) + 1)) s) = 0 <;> by_cases e0 : L.sp i = 0 <;> simp [ez, e0, updF] <;> omega
 | false =>
  simp only [pick]
  by_cases e1 : L.sp i = 1
  ·simp only [e1, decide_true]
   refine key _ _ _ ?_
   cases casB nw tail (u32w (L.no i)) s <;> simp
  by_cases e3 : L.sp i = 3
  ·simp only [Int.reduceEq, e3, decide_true, decide_false]
   refine key _ _ _ ?_
   cases casB nw (abA tail (L.ot i)) 0 s <;> simp
  by_cases e4 : L.sp i = 4
  ·simp only [Int.reduceEq, e4, decide_true, decide_false]
   exact ⟨fun t ht h => ⟨rfl, by simp [updF, h], by simp [updF, h]⟩, by simp [updF], hs⟩
  by_cases e5 : L.sp i = 5
  ·simp only [Int.reduceEq, e5, decide_true, decide_false]
   exact ⟨fun _ _ _ => ⟨rfl, rfl, rfl⟩, hsp, hs⟩
  ·simp only [e1, e3, e4, e5, decide_false]
   exact ⟨fun _ _ _ => ⟨rfl, rfl, rfl⟩, hsp, hs⟩
theorem ZL0 (n E nw : Nat) (tail t now : Int) (ta : Nat) (L : AL) (s : PS) (hok : abOk n E L) (hx : abEx n E L) : abOk n E (ZB1 E n nw tail t now ta L s).2.1 /\ abEx n E (ZB1 E n nw tail t now ta L s).2.1 := by
 unfold ZB1
 rcases ZAt n t with ⟨hb, i, hi, rfl⟩ | ⟨hb, ho⟩
 ·simp only [hb, Int.toNat_natCast]
  unfold ZLp
  by_cases e1 : L.ss.st i = 1
  ·simp only [e1, decide_true, pick]
   obtain ⟨h1, h2, h3⟩ := ZOe n E nw tail i ta (ZLJ L.ss.dl i now) L s hi hok hx e1
   exact ZGC n E L i hx.1 _ h1 hok hx h2 h3
  by_cases e3 : L.ss.st i = 3
  ·simp only [Int.reduceEq, e3, decide_true, decide_false, pick]
   obtain ⟨h1, h2, h3⟩ := ZOf n E nw tail i ta L s hi hx e3
   exact ZGC n E L i hx.1 _ h1 hok hx h2 fun _ => ⟨fun h => by simp only at h; rw [h3] at h; omega, fun h => by simp only at h; rw [h3] at h; omega⟩
  ·simp only [e1, e3, decide_false, pick]
   exact ZGC n E L i hx.1 _ (fun _ _ _ => ⟨rfl, rfl, rfl⟩) hok hx (hx.2 i hi).1 fun _ => ⟨fun h => absurd h e1, (hx.2 i hi).2⟩
 ·simp only [hb]
  exact ⟨hok, hx⟩
theorem K1.inv_step {S : K1} {n : Nat} (h : S.inv n) (nw ta : Nat) (t now : Int) (s : PS) : (S.step n nw t now ta s).2.1.inv n := by
 cases S with
 | ab E tail L =>
  obtain ⟨⟨h1, h2⟩, h3⟩ := h
  obtain ⟨k1, k2⟩ := ZL0 n E nw tail t now ta L s h2 h3
  exact ⟨⟨h1, k1⟩, k2⟩
 | fl => exact h
 | sl => exact h
 | cl => exact h
 | mc => exact h
 | hi => exact h
theorem K1.inv_set {S : K1} {n : Nat} (h : S.inv n) (st dl : Nat -> Int) (hs : ∀ t, t < n -> st t = S.ss.st t \/ (S.ss.st t = 0 /\ st t = 1) \/ (st t ≠ 0 /\ st t ≠ 1)) : (S.set st dl).inv n := by
 cases S with
 | ab E tail L =>
  obtain ⟨⟨h1, h2⟩, h3, h4⟩ := h
  refine ⟨⟨h1, fun t ht a b => ?_⟩, h3, fun t ht => ⟨(h4 t ht).1, fun a => ?_⟩⟩
  ·simp only at a b ⊢
   rcases hs t ht with e | ⟨e, _⟩ | ⟨_, e⟩
   ·rw [e] at a; exact h2 t ht a b
   ·rw [(h4 t ht).2 e]; omega
   ·exact absurd a e
  ·simp only at a ⊢
   rcases hs t ht with e | ⟨_, e⟩ | ⟨e, _⟩
   ·rw [e] at a; exact (h4 t ht).2 a
   ·rw [e] at a; omega
   ·exact absurd a e
 | fl => exact h
 | sl => exact h
 | cl => exact h
 | mc => exact h
 | hi => exact h
theorem ZNS (n : Nat) (st : Nat -> Int) (tm : Bool) (t d : Int) : ∀ j, j < n -> lkSt n st tm t d j = st j \/ (st j = 0 /\ lkSt n st tm t d j = 1) \/ (lkSt n st tm t d j ≠ 0 /\ lkSt n st tm t d j ≠ 1) := fun j hj => by
 unfold lkSt
 by_cases h : lkE n st tm t d = 0
 ·simp only [h, decide_true, pick, updF]
  by_cases hj2 : j = t.toNat
  ·subst hj2; simp only [if_true]; exact .inr (.inl ⟨(ZQ5 h).2.2.2, trivial⟩)
  ·simp only [if_neg hj2]; exact .inl trivial
 ·simp only [h, decide_false, pick]; exact .inl trivial
theorem ZKL (n : Nat) (st : Nat -> Int) (t v : Int) (hv : v ≠ 0 /\ v ≠ 1) : ∀ j, j < n -> ulSt n st t v j = st j \/ (st j = 0 /\ ulSt n st t v j = 1) \/ (ulSt n st t v j ≠ 0 /\ ulSt n st t v j ≠ 1) := fun j hj => by
 unfold ulSt
 by_cases h : hoE n st t = 0
 ·simp only [h, decide_true, pick, updF]
  by_cases hj2 : j = t.toNat
  ·subst hj2; simp only [if_true]; exact .inr (.inr hv)
  ·simp only [if_neg hj2]; exact .inl trivial
 ·simp only [h, decide_false, pick]; exact .inl trivial
theorem ZPe (n : Nat) (st : Nat -> Int) (pr : Bool) (t : Int) : ∀ j, j < n -> prSt n st pr t j = st j \/ (st j = 0 /\ prSt n st pr t j = 1) \/ (prSt n st pr t j ≠ 0 /\ prSt n st pr t j ≠ 1) := fun j hj => by
 unfold prSt
 cases pr
 ·exact .inl rfl
 ·exact ZKL n st t 4 (by omega) j hj
theorem ZHw {S : K1} {n : Nat} (h : S.inv n) (t : Int) : (k1Lk n S t).inv n := K1.inv_set h _ _ (ZNS _ _ _ _ _)
theorem ZLK {S : K1} {n : Nat} (h : S.inv n) (t : Int) : (k1Ul n S t).inv n := K1.inv_set h _ _ (ZKL _ _ _ _ (by omega))
theorem ZOg {S : K1} {n : Nat} (h : S.inv n) (t : Int) : (k1Pr n S t).inv n := K1.inv_set h _ _ (ZPe _ _ _ _)
def CkOk (K : CK) (m : Nat) : Prop := K.M <= 4096 /\ ∀ t, t < m -> K.no t < 8 /\ K.b (K.no t) = true /\ K.cn (K.no t) <= 64
def GOk (K : CK) (g : K1) : Prop := g.inv 8 /\ g.T = K.gT
def LoOk (K : CK) (m : Nat) (lo : Nat -> K1) : Prop := ∀ t, t < m -> (lo (K.no t)).inv (K.cn (K.no t)) /\ (lo (K.no t)).T = K.lT
def TdOk (m : Nat) (td : Nat -> Nat) : Prop := ∀ t, t < m -> td t = 0 \/ tdOk (td t)
def ZCy (K : CK) (m : Nat) (L : CO) : Prop := CkOk K m /\ GOk K L.g /\ LoOk K m L.lo /\ TdOk m L.td
theorem ZCy.ok {K : CK} {m : Nat} {L : CO} (h : ZCy K m L) : CoOk K m L := by
 obtain ⟨h1, h2, h3, h4⟩ := h
 exact ⟨fun t ht => ⟨(h1.2 t ht).1, (h1.2 t ht).2.1, (h1.2 t ht).2.2, (h3 t ht).1.1, (h3 t ht).2⟩, ⟨h2.1.1, h2.2⟩, h1.1, h4⟩
theorem LoOk.upd {K : CK} {m : Nat} {lo : Nat -> K1} (h : LoOk K m lo) (c : Nat) (S : K1) (hS : S.inv (K.cn c)) (hT : S.T = K.lT) : LoOk K m (updK lo c S) := fun t ht => by
 by_cases e : K.no t = c
 ·simp only [updK, if_pos e, e]; exact ⟨hS, hT⟩
 ·simp only [updK, if_neg e]; exact h t ht
theorem TdOk.upd {m : Nat} {td : Nat -> Nat} (h : TdOk m td) (t f : Nat) (hf : f = 0 \/ tdOk f) : TdOk m (updN td t f) := fun j hj => by
 by_cases e : j = t
 ·simp only [updN, if_pos e]; exact hf
 ·simp only [updN, if_neg e]; exact h j hj
theorem ZNT (K : CK) (m nw t ta : Nat) (now : Int) (L : CO) (s : PS) (ht : t < m) (h : ZCy K m L) : ZCy K m (ZKG K nw t ta now L s).2.1 := by
 obtain ⟨h1, h2, h3, h4⟩ := h
 have hl := h3 t ht
 have hls : LoOk K m (updK L.lo (K.no t) (coLs K nw t ta now L s).2.1) := h3.upd _ _ (K1.inv_step hl.1 _ _ _ _ _) (by unfold coLs; rw [K1.T_step]; exact hl.2)
 have hgs : GOk K (coGs K nw t ta now L s).2.1 := ⟨K1.inv_step h2.1 _ _ _ _ _, by unfold coGs; rw [K1.T_step]; exact h2.2⟩
 have haw : LoOk K m (updK L.lo (K.no t) (k1Ul (K.cn (K.no t)) (L.lo (K.no t)) (K.inn t))) := h3.upd _ _ (ZLK hl.1 _) (by unfold k1Ul; rw [K1.T_set]; exact hl.2)
 unfold ZKG
 refine ZAv (P := fun r : Dd × CO × PS => ZCy K m r.2.1) _ _ _ ?_ (ZAv (P := fun r : Dd × CO × PS => ZCy K m r.2.1) _ _ _ ?_ (ZAv (P := fun r : Dd × CO × PS => ZCy K m r.2.1) _ _ _ ?_ (ZAv (P := fun r : Dd × CO × PS => ZCy K m r.2.1) _ _ _ ?_ (ZAv (P := fun r : Dd × CO × PS => ZCy K m r.2.1) _ _ _ ?_ (ZAv (P := fun r : Dd × CO × PS => ZCy K m r.2.1) _ _ _ ?_ (ZAv (P := fun r : Dd × CO × PS => ZCy K m r.2.1) _ _ _ ?_ (ZAv (P := fun r : Dd × CO × PS => ZCy K m r.2.1) _ _ _ ?_ (ZAv (P := fun r : Dd × CO × PS => ZCy K m r.2.1) _ _ _ ?_ ?_))))))))
 ·exact ⟨h1, h2, hls, ZAv _ _ _ (h4.upd _ _ (.inr (by simp [tdOk]))) h4⟩
 ·unfold ZHF
  refine ZAv (P := fun r : Dd × CO × PS => ZCy K m r.2.1) _ _ _ ⟨h1, ⟨ZHw h2.1 _, by unfold k1Lk; rw [K1.T_set]; exact h2.2⟩, h3, h4.upd _ _ (.inr (by simp [tdOk]))⟩ ⟨h1, h2, h3, h4⟩
 ·exact ⟨h1, hgs, h3, ZAv _ _ _ (h4.upd _ _ (.inr (by simp [tdOk]))) h4⟩
 ·exact ⟨h1, h2, h3, h4⟩
 ·unfold ZFN
  refine ZAv (P := fun r : CO => ZCy K m r) _ _ _ ⟨h1, h2, h3.upd _ _ (ZOg hl.1 _) (by unfold k1Pr; rw [K1.T_set]; exact hl.2), h4.upd _ _ (.inr (by simp [tdOk]))⟩ ⟨h1, h2, h3, h4.upd _ _ (.inr (by simp [tdOk]))⟩
 ·exact ⟨h1, h2, hls, h4.upd _ _ (ZAv (P := fun f => f = 0 \/ tdOk f) _ _ _ (.inr (by simp [tdOk])) (.inr (by simp [tdOk])))⟩
 ·exact ⟨h1, h2, haw, h4.upd _ _ (.inr (by simp [tdOk]))⟩
 ·exact ⟨h1, ⟨ZLK h2.1 _, by show (k1Ul 8 L.g (K.no t : Int)).T = K.gT; unfold k1Ul; rw [K1.T_set]; exact h2.2⟩, h3, h4.upd _ _ (.inr (by simp [tdOk]))⟩
 ·unfold ZFO
  refine ZAv (P := fun r : CO => ZCy K m r) _ _ _ ⟨h1, hgs, haw, h4.upd _ _ (.inr (by simp [tdOk]))⟩ ⟨h1, hgs, h3, h4⟩
 ·exact ⟨h1, h2, hls, h4⟩
theorem ZL1 (K : CK) (m nw ta : Nat) (t now : Int) (L : CO) (s : PS) (h : ZCy K m L) : ZCy K m (ZDX K m nw t ta now L s).2.1 := by
 unfold ZDX
 rcases ZAt m t with ⟨hb, i, hi, rfl⟩ | ⟨hb, ho⟩
 ·simp only [hb, Int.toNat_natCast]
  have hl := h.2.2.1 i hi
  refine ZAv (P := fun r : Dd × CO × PS => ZCy K m r.2.1) _ _ _ ?_ h
  have hbg : ZCy K m (pick (decide (L.td i = 0)) (ZF7 K i L) L) := by
   refine ZAv _ _ _ ?_ h
   unfold ZF7
   exact ZAv _ _ _ ⟨h.1, h.2.1, h.2.2.1, h.2.2.2.upd _ _ (.inr (by simp [tdOk]))⟩ ⟨h.1, h.2.1, h.2.2.1.upd _ _ (ZHw hl.1 _) (by unfold k1Lk; rw [K1.T_set]; exact hl.2), h.2.2.2.upd _ _ (.inr (by simp [tdOk]))⟩
  obtain ⟨a, b, c, d⟩ := ZNT K m nw i ta now _ s hi hbg
  exact ⟨a, b, c, ZAv _ _ _ (d.upd _ _ (.inl rfl)) d⟩
 ·simp only [hb]; exact h
inductive LK where
 | s (S : K1)
 | c (K : CK) (L : CO)
def LK.R (n : Nat) : LK -> List Go.Sx.Loc -> Go.Sx.Loc -> List Nat -> World -> Prop
 | .s S => S.R n
 | .c K L => ZAs (ZFq K n 8 L) 13
def LK.T : LK -> Nat
 | .s S => S.T
 | .c .. => 239
def LK.ss : LK -> SS
 | .s S => S.ss
 | .c K L => L.ss
def LK.tm : LK -> Bool
 | .s S => S.tm
 | .c .. => false
def LK.pr : LK -> Bool
 | .s S => S.pr
 | .c .. => false
def LK.set (st dl : Nat -> Int) : LK -> LK
 | .s S => .s (S.set st dl)
 | .c K L => .c K ⟨⟨st, dl⟩, L.td, L.pa, L.g, L.lo⟩
def LK.inv (n : Nat) : LK -> Prop
 | .s S => S.inv n
 | .c K L => ZCy K n L
def LK.step (n nw : Nat) (t now : Int) (ta : Nat) (s : PS) : LK -> Dd × LK × PS
 | .s S => ((S.step n nw t now ta s).1, .s (S.step n nw t now ta s).2.1, (S.step n nw t now ta s).2.2)
 | .c K L => ((ZDX K n nw t ta now L s).1, .c K (ZDX K n nw t ta now L s).2.1, (ZDX K n nw t ta now L s).2.2)
theorem LK.stable (n : Nat) (S : LK) (ls : List Go.Sx.Loc) : ZCf (S.R n ls) := by
 cases S with
 | s S => exact K1.stable n S ls
 | c K L => exact ZBW _ _ _
theorem LK.T_step (S : LK) (n nw ta : Nat) (t now : Int) (s : PS) : (S.step n nw t now ta s).2.1.T = S.T := by
 cases S with
 | s S => exact K1.T_step S n nw ta t now s
 | c K L => rfl
theorem LK.T_set (S : LK) (st dl : Nat -> Int) : (S.set st dl).T = S.T := by
 cases S with
 | s S => exact K1.T_set S st dl
 | c K L => rfl
theorem LK.inv_step {S : LK} {n : Nat} (h : S.inv n) (nw ta : Nat) (t now : Int) (s : PS) : (S.step n nw t now ta s).2.1.inv n := by
 cases S with
 | s S => exact K1.inv_step (S := S) h nw ta t now s
 | c K L => exact ZL1 K n nw ta t now L s h
def LK.lock (n : Nat) (S : LK) (t d : Int) : LK := S.set (lkSt n S.ss.st S.tm t d) (lkDl n S.ss.st S.ss.dl S.tm t d)
def LK.unlock (n : Nat) (S : LK) (t : Int) : LK := S.set (ulSt n S.ss.st t 3) S.ss.dl
def LK.probe (n : Nat) (S : LK) (t : Int) : LK := S.set (prSt n S.ss.st S.pr t) S.ss.dl
theorem LK.inv_lock {S : LK} {n : Nat} (h : S.inv n) (t d : Int) : (S.lock n t d).inv n := by
 cases S with
 | s S => exact K1.inv_set (S := S) h _ _ (ZNS _ _ _ _ _)
 | c K L => exact h
theorem LK.inv_unlock {S : LK} {n : Nat} (h : S.inv n) (t : Int) : (S.unlock n t).inv n := by
 cases S with
 | s S => exact K1.inv_set (S := S) h _ _ (ZKL _ _ _ _ (by omega))
 | c K L => exact h
theorem ZNU (K : CK) (n nt nw ta : Nat) (t now : Int) (hs : Nat -> Int) (L : CO) (s : PS) (hta : ta < nt) (hnt : nt <= 64) (hn : n <= 64) (hnw : nw <= 4096) (hok : ZCy K n L) :
  ZAH Tryz.prog 271 [(0, some (.ob [1] (ZAs (ZFq K n 8 L) 13))), (1, some (ZBO nt nw hs s))] 2 [.l (.p 0 0 0 0), .l (.v (.int .i64 t)), .l (.v (.int .i64 ta)), .l (.v (.int .i64 now))] fun x h k =>
   x = didO (ZDX K n nw t ta now L s).1 /\ k = 2 /\ h = [(0, some (.ob [1] (ZAs (ZFq K n 8 (ZDX K n nw t ta now L s).2.1) 13))), (1, some (ZBO nt nw hs (ZDX K n nw t ta now L s).2.2))] := by
 have key := ZKK K n nt nw ta t now hs L s hn hta hnt hnw hok.ok (fun i hi => (ZHw (hok.2.2.1 i hi).1 _).1) (fun c S t => by unfold k1Lk; rw [K1.T_set])
 generalize ZDX K n nw t ta now L s = r at key ⊢
 refine ZAH.refin (ZAH.ghost (ZAd 0 (ks := [1]) (H := ZFq K n 8 L) (np := 13) rfl (by decide) rfl rfl rfl) (ZAH.pre key ?_)) ?_
 ·exact ZAD
 ·rintro x h k ⟨rfl, rfl, rfl⟩ _
  refine ZBF (ZCW [0, 1, 2, 3, 4, 5, 6, 7, 8, 9, 10, 11, 12] (H := ZFq K n 8 r.2.1) (np := 13) 1 rfl (by decide) rfl rfl ?_ rfl) (Nat.le_of_ble_eq_true rfl) ?_
  ·exact ZAD
  conv => whnf
  (refine ZAC ?_; conv => whnf); exact zF
theorem ZLL (S : LK) (n nt nw ta : Nat) (t now : Int) (hs : Nat -> Int) (s : PS) (hta : ta < nt) (hnt : nt <= 64) (hn : n <= 64) (hnw : nw <= 4096) (hok : S.inv n) :
  ZDq Tryz.prog (.l (.i S.T 0)) "Step" [(0, some (.ob [1] (S.R n))), (1, some (ZBO nt nw hs s))] 2 [.l (.v (.int .i64 t)), .l (.v (.int .i64 ta)), .l (.v (.int .i64 now))] fun x h k =>
   x = didO (S.step n nw t now ta s).1 /\ k = 2 /\ h = [(0, some (.ob [1] ((S.step n nw t now ta s).2.1.R n))), (1, some (ZBO nt nw hs (S.step n nw t now ta s).2.2))] := by
 cases S with
 | s S => exact ZHE S n nt nw ta t now hs s hta hnt hn hnw hok.1
 | c K L => exact ZJt (fun v args w => by kernel_rfl) (ZNU K n nt nw ta t now hs L s hta hnt hn hnw hok)
theorem ZHx : IvS 239 "Lock" 210 := ZA7 fun a args w => by kernel_rfl
theorem ZPH (S : LK) (n : Nat) (t d : Int) (hn : n <= 64) :
  ZDq Tryz.prog (.l (.i S.T 0)) "Lock" [(0, some (.ob [1] (S.R n)))] 2 [.l (.v (.int .i64 t)), .l (.v (.int .i64 d))] fun x h k => x = sInt .i64 (lkE n S.ss.st S.tm t d) /\ k = 2 /\ h = [(0, some (.ob [1] ((S.lock n t d).R n)))] := by
 cases S with
 | s S => exact ZNP S n t d hn
 | c K L =>
  have hq := ZFe n L.ss.st L.ss.dl false false t d hn
  refine ZBo fun G hP hA => ?_
  refine ZAZ (ZAd 0 (ks := [1]) (H := ZFq K n 8 L) (np := 13) rfl (by decide) rfl rfl rfl) ?_
  refine ZAc hP ZHx rfl rfl ?_
  conv => whnf
  (refine ZAA hP (hq) ?_; (conv => whnf); refine zA ?_; conv => whnf)
  refine ZBF (ZCW [0, 1, 2, 3, 4, 5, 6, 7, 8, 9, 10, 11, 12] (H := ZFq K n 8 ⟨⟨lkSt n L.ss.st false t d, lkDl n L.ss.st L.ss.dl false t d⟩, L.td, L.pa, L.g, L.lo⟩) (np := 13) 1 rfl (by decide) rfl rfl ?_ rfl) (Nat.le_of_ble_eq_true rfl) ?_
  ·exact ZAD
  conv => whnf
  (refine ZAC ?_; conv => whnf); exact zF
theorem ZGD : IvS 239 "Unlock" 214 := ZA7 fun a args w => by kernel_rfl
theorem ZOh (S : LK) (n : Nat) (t : Int) (hn : n <= 64) :
  ZDq Tryz.prog (.l (.i S.T 0)) "Unlock" [(0, some (.ob [1] (S.R n)))] 2 [.l (.v (.int .i64 t))] fun x h k => x = sInt .i64 (hoE n S.ss.st t) /\ k = 2 /\ h = [(0, some (.ob [1] ((S.unlock n t).R n)))] := by
 cases S with
 | s S => exact ZHn S n t hn
 | c K L =>
  have hq := ZEP n L.ss.st L.ss.dl false false t hn
  refine ZBo fun G hP hA => ?_
  refine ZAZ (ZAd 0 (ks := [1]) (H := ZFq K n 8 L) (np := 13) rfl (by decide) rfl rfl rfl) ?_
  refine ZAc hP ZGD rfl rfl ?_
  conv => whnf
  (refine ZAA hP (hq) ?_; (conv => whnf); refine zA ?_; conv => whnf)
  refine ZBF (ZCW [0, 1, 2, 3, 4, 5, 6, 7, 8, 9, 10, 11, 12] (H := ZFq K n 8 ⟨⟨ulSt n L.ss.st t 3, L.ss.dl⟩, L.td, L.pa, L.g, L.lo⟩) (np := 13) 1 rfl (by decide) rfl rfl ?_ rfl) (Nat.le_of_ble_eq_true rfl) ?_
  ·exact ZAD
  conv => whnf
  (refine ZAC ?_; conv => whnf); exact zF
theorem ZG1 : IvS 239 "State" 212 := ZA7 fun a args w => by kernel_rfl
theorem ZFQ (S : LK) (n : Nat) (t : Int) (hn : n <= 64) :
  ZDq Tryz.prog (.l (.i S.T 0)) "State" [(0, some (.ob [1] (S.R n)))] 2 [.l (.v (.int .i64 t))] fun x h k => x = sInt .i64 (stV n S.ss.st t) /\ k = 2 /\ h = [(0, some (.ob [1] (S.R n)))] := by
 cases S with
 | s S => exact ZPc S n t hn
 | c K L =>
  have hq := ZAz n L.ss.st L.ss.dl false false t
  refine ZBo fun G hP hA => ?_
  refine ZAZ (ZAd 0 (ks := [1]) (H := ZFq K n 8 L) (np := 13) rfl (by decide) rfl rfl rfl) ?_
  refine ZAc hP ZG1 rfl rfl ?_
  conv => whnf
  (refine ZAA hP (hq) ?_; (conv => whnf); refine zA ?_; conv => whnf)
  refine ZBF (ZCW [0, 1, 2, 3, 4, 5, 6, 7, 8, 9, 10, 11, 12] (H := ZFq K n 8 L) (np := 13) 1 rfl (by decide) rfl rfl ?_ rfl) (Nat.le_of_ble_eq_true rfl) ?_
  ·exact ZAD
  conv => whnf
  (refine ZAC ?_; conv => whnf); exact zF
def ZJd (ty p l s m : Nat) : List LV := [.p p 0 0 0, .i ty l, .v (.slice none 0 0), .v (.int .i64 0), .v (.int .i64 0), .s s 1 0 m 0]
def ZOu (ty p l tr s m i : Nat) (now idle : Int) : List LV := [.p p 0 0 0, .i ty l, .s tr 4 0 i 0, .v (.int .i64 now), .v (.int .i64 idle), .s s 1 0 m 0]
def rowT (kind t now : Int) (lead : Bool) : List Value := [.int .i64 kind, .int .i64 t, .int .i64 now, .bool lead]
def ZCL (rows : Nat -> List Value) (i : Nat) (r : List Value) : Nat -> List Value := fun j => if j < i then rows j else r
structure MS where
 S : LK
 s : PS
 i : Nat
 rows : Nat -> List Value
 now : Int
 idle : Int
 sp : Nat -> Int
def ZCB (n nw ty tr : Nat) (hs : Nat -> Int) (X : MS) : Heap := [(0, some (.st (ZOu ty 1 2 tr 4 n X.i X.now X.idle))), (1, some (ZBO n nw hs X.s)), (2, some (.ob [1] (X.S.R n))), (tr, some (.ar 4 X.i X.rows)), (4, some (.ar 1 n (numE X.sp)))]
def MS.ent (X : MS) (kind t : Int) (lead : Bool) : MS := ⟨X.S, X.s, X.i + 1, ZCL X.rows X.i (rowT kind t X.now lead), X.now, X.idle, X.sp⟩
theorem ZAp (ty m i : Nat) (now idle kind t : Int) (rows : Nat -> List Value) (hi : i <= 100000) :
  ZAH Tryz.prog 97 [(0, some (.st (ZOu ty 1 2 3 4 m i now idle))), (3, some (.ar 4 i rows))] 5 [.l (.p 0 0 0 0), .l (.v (.int .i64 kind)), .l (.v (.int .i64 t))] fun x h k =>
   x = .t [] /\ k = 6 /\ h = [(0, some (.st (ZOu ty 1 2 5 4 m (i + 1) now idle))), (5, some (.ar 4 (i + 1) (ZCL rows i (rowT kind t now false))))] := by
 refine sE Tryz.func97 ic97_eq [] fun G hP hA => ?_
 unfold evF ic97
 conv => whnf
 (refine dI hP ?_; conv => whnf)
 (repeat' ((first | refine aI ?_ | refine a64 ?_ | refine a32 ?_ | refine a8 ?_); conv => whnf))
 (repeat (refine oI ?_; conv => whnf))
 (refine ZAC ?_; conv => whnf); refine ⟨rfl, rfl, rfl, ?_, ?_, rfl⟩
 ·rfl
 ·refine ⟨rfl, ⟨rfl, rfl, fun j hj => ?_⟩, trivial⟩
  by_cases h : j < i
  ·simp only [ZCL, if_pos h]
  ·have e : j - i = 0 := by omega
   simp only [ZCL, if_neg h, e]
   rfl
def MS.did (X : MS) (d : Dd) (t : Int) : MS :=
 let X1 := pick d.q (X.ent 2 t false) X
 let X2 := pick d.a (X1.ent 3 t false) X1
 pick (decide (d.e = 1)) (X2.ent 4 t d.l) (pick (decide (d.e = 2)) (X2.ent 5 t false) (pick (decide (d.e = 6)) (X2.ent 8 t false) (pick (decide (d.e = 3)) (X2.ent 7 t false) X2)))
def MS.mid (n nw : Nat) (X : MS) (t : Nat) : Dd × LK × PS := X.S.step n nw (t : Int) X.now t X.s
def MS.busy (n : Nat) (X : MS) (t : Int) : Bool := decide (stV n X.S.ss.st t = 1) || decide (stV n X.S.ss.st t = 3)
def MS.stp (n nw : Nat) (X : MS) (t : Int) : Bool × MS :=
 match X.busy n t with
 | true => (true, (MS.mk (X.mid n nw t.toNat).2.1 (X.mid n nw t.toNat).2.2 X.i X.rows X.now X.idle (updF X.sp t.toNat (incZ (X.sp t.toNat)))).did (X.mid n nw t.toNat).1 t)
 | false => (false, X)
theorem ZOi (rows : Nat -> List Value) (i : Nat) (a b c : Int) (l : Bool) (j : Nat) (hj : j < i + 1) : mrgL (j = i) (ZAL (ZCL rows i (rowT a b c false) j) 3 [.bool l]) (ZCL rows i (rowT a b c false) j) = ZCL rows i (rowT a b c l) j := by
 rw [ZFT _ _ _ (by rw [ZBD])]
 by_cases h : j = i
 ·subst h
  simp [ZCL, rowT, ZAL, setL]
 ·rw [if_neg h]
  simp only [ZCL, if_pos (show j < i by omega)]
theorem natL (k : Nat) : nadd 0 (((k + 1 : Nat) : Int) - 1).toNat = k := by simp [ZAI]
theorem ZL2 (n nw ty : Nat) (hs : Nat -> Int) (X : MS) (t : Nat) (v : Int) (ht : t < n) (hn : n <= 64) (hnw : nw <= 4096) (hT : X.S.T = ty) (hok : X.S.inv n) (hi : X.i <= 90000) (hv : X.S.ss.st t = v) (hv2 : v = 1 \/ v = 3) (e : Int) (l : Bool) (S' : LK) (s' : PS) (hr : X.mid n nw t = (⟨e, true, true, l⟩, S', s')) :
  ZAH Tryz.prog 94 (ZCB n nw ty 3 hs X) 5 [.l (.p 0 0 0 0), .l (.v (.int .i64 t))] fun x h k =>
   x = ZAb true /\ k = 6 /\ h = ZCB n nw ty 5 hs ((MS.mk S' s' X.i X.rows X.now X.idle (updF X.sp t (incZ (X.sp t)))).did ⟨e, true, true, l⟩ t) := by
 have hst := ZFQ X.S n t hn
 have hin : inW n (t : Int) = true := by simp [inW]; omega
 simp only [stV, hin, pick, Int.toNat_natCast, hv] at hst
 have hsp := ZLL X.S n n nw t t X.now hs X.s ht hn hn hnw hok
 unfold MS.mid at hr
 rw [hr] at hsp
 rw [hT] at hst hsp
 refine sE Tryz.func94 ic94_eq [.t 4] fun G hP hA => ?_
 unfold evF ic94 MS.did
 rcases hv2 with rfl | rfl
 all_goals
  have h0 := ZAp ty n (X.i) X.now X.idle 2 t (X.rows) (by omega)
  have h1 := ZAp ty n (X.i + 1) X.now X.idle 3 t (ZCL (X.rows) (X.i) (rowT 2 t X.now false)) (by omega)
  have ha := ZAp ty n (X.i + 1 + 1) X.now X.idle 4 t (ZCL (ZCL (X.rows) (X.i) (rowT 2 t X.now false)) (X.i + 1) (rowT 3 t X.now false)) (by omega)
  have hb := ZAp ty n (X.i + 1 + 1) X.now X.idle 5 t (ZCL (ZCL (X.rows) (X.i) (rowT 2 t X.now false)) (X.i + 1) (rowT 3 t X.now false)) (by omega)
  have hc := ZAp ty n (X.i + 1 + 1) X.now X.idle 8 t (ZCL (ZCL (X.rows) (X.i) (rowT 2 t X.now false)) (X.i + 1) (rowT 3 t X.now false)) (by omega)
  have hd := ZAp ty n (X.i + 1 + 1) X.now X.idle 7 t (ZCL (ZCL (X.rows) (X.i) (rowT 2 t X.now false)) (X.i + 1) (rowT 3 t X.now false)) (by omega)
  by_cases e1 : e = 1 <;> by_cases e2 : e = 2 <;> by_cases e6 : e = 6 <;> by_cases e3 : e = 3
  all_goals first | (exfalso; omega) | skip
  all_goals
   simp only [e1, e2, e6, e3, Int.reduceEq, decide_true, decide_false, pick]
   conv => whnf
   (repeat (first | (rw [natL]) | ((first | refine aI ?_ | refine a64 ?_ | refine a32 ?_ | refine dY ?_ | refine dN ?_ | refine ZAE ?_ | refine dI hP ?_); conv => whnf) | (refine And.intro (by (conv => whnf); first | exact ⟨rfl, rfl, rfl⟩ | (refine And.intro (by (first | omega | assumption | (simp only [ZAI]; omega) | (simp [ZAI]; omega))) ?_; (conv => whnf); first | exact ⟨rfl, rfl, rfl⟩ | (refine ⟨?_, ?_, ?_⟩ <;> first | rfl | (rw [ZAF]; first | done | rfl) | (rw [natL]; first | done | rfl))) | (refine ⟨?_, ?_, ?_⟩ <;> first | rfl | (rw [ZAF]; first | done | rfl) | (rw [natL]; first | done | rfl))) ?_; conv => whnf) | rw [natI] | rw [ZAF] | ((first | refine ZAA hP h0 ?_ | refine ZAB hP h0 ?_); (conv => whnf); refine zA ?_; conv => whnf) | ((first | refine ZAA hP h1 ?_ | refine ZAB hP h1 ?_); (conv => whnf); refine zA ?_; conv => whnf) | ((first | refine ZAA hP ha ?_ | refine ZAB hP ha ?_); (conv => whnf); refine zA ?_; conv => whnf) | ((first | refine ZAA hP hb ?_ | refine ZAB hP hb ?_); (conv => whnf); refine zA ?_; conv => whnf) | ((first | refine ZAA hP hc ?_ | refine ZAB hP hc ?_); (conv => whnf); refine zA ?_; conv => whnf) | ((first | refine ZAA hP hd ?_ | refine ZAB hP hd ?_); (conv => whnf); refine zA ?_; conv => whnf) | ((first | refine ZAm hP hst ?_ | refine ZAh hP hst ?_ | refine ZAm hP hsp ?_ | refine ZAh hP hsp ?_); (conv => whnf); refine zA ?_; conv => whnf) | (refine arW ?_; conv => whnf)))
   (refine ZAC ?_; conv => whnf); refine ⟨rfl, rfl, rfl, ?_, ?_, rfl⟩
   ·rfl
   ·first
     | exact ⟨rfl, ZAD, ZAD, ⟨rfl, rfl, fun j hj => rfl⟩, ⟨rfl, rfl, fun j hj => updM X.sp t _ j⟩, trivial⟩
     | exact ⟨rfl, ZAD, ZAD, ⟨rfl, rfl, fun j hj => ZOi _ _ _ _ _ _ j hj⟩, ⟨rfl, rfl, fun j hj => updM X.sp t _ j⟩, trivial⟩
theorem ZL3 (n nw ty : Nat) (hs : Nat -> Int) (X : MS) (t : Nat) (v : Int) (ht : t < n) (hn : n <= 64) (hnw : nw <= 4096) (hT : X.S.T = ty) (hok : X.S.inv n) (hi : X.i <= 90000) (hv : X.S.ss.st t = v) (hv2 : v = 1 \/ v = 3) (e : Int) (l : Bool) (S' : LK) (s' : PS) (hr : X.mid n nw t = (⟨e, true, false, l⟩, S', s')) :
  ZAH Tryz.prog 94 (ZCB n nw ty 3 hs X) 5 [.l (.p 0 0 0 0), .l (.v (.int .i64 t))] fun x h k =>
   x = ZAb true /\ k = 6 /\ h = ZCB n nw ty 5 hs ((MS.mk S' s' X.i X.rows X.now X.idle (updF X.sp t (incZ (X.sp t)))).did ⟨e, true, false, l⟩ t) := by
 have hst := ZFQ X.S n t hn
 have hin : inW n (t : Int) = true := by simp [inW]; omega
 simp only [stV, hin, pick, Int.toNat_natCast, hv] at hst
 have hsp := ZLL X.S n n nw t t X.now hs X.s ht hn hn hnw hok
 unfold MS.mid at hr
 rw [hr] at hsp
 rw [hT] at hst hsp
 refine sE Tryz.func94 ic94_eq [.t 4] fun G hP hA => ?_
 unfold evF ic94 MS.did
 rcases hv2 with rfl | rfl
 all_goals
  have h0 := ZAp ty n (X.i) X.now X.idle 2 t (X.rows) (by omega)
  have ha := ZAp ty n (X.i + 1) X.now X.idle 4 t (ZCL (X.rows) (X.i) (rowT 2 t X.now false)) (by omega)
  have hb := ZAp ty n (X.i + 1) X.now X.idle 5 t (ZCL (X.rows) (X.i) (rowT 2 t X.now false)) (by omega)
  have hc := ZAp ty n (X.i + 1) X.now X.idle 8 t (ZCL (X.rows) (X.i) (rowT 2 t X.now false)) (by omega)
  have hd := ZAp ty n (X.i + 1) X.now X.idle 7 t (ZCL (X.rows) (X.i) (rowT 2 t X.now false)) (by omega)
  by_cases e1 : e = 1 <;> by_cases e2 : e = 2 <;> by_cases e6 : e = 6 <;> by_cases e3 : e = 3
  all_goals first | (exfalso; omega) | skip
  all_goals
   simp only [e1, e2, e6, e3, Int.reduceEq, decide_true, decide_false, pick]
   conv => whnf
   (repeat (first | (rw [natL]) | ((first | refine aI ?_ | refine a64 ?_ | refine a32 ?_ | refine dY ?_ | refine dN ?_ | refine ZAE ?_ | refine dI hP ?_); conv => whnf) | (refine And.intro (by (conv => whnf); first | exact ⟨rfl, rfl, rfl⟩ | (refine And.intro (by (first | omega | assumption | (simp only [ZAI]; omega) | (simp [ZAI]; omega))) ?_; (conv => whnf); first | exact ⟨rfl, rfl, rfl⟩ | (refine ⟨?_, ?_, ?_⟩ <;> first | rfl | (rw [ZAF]; first | done | rfl) | (rw [natL]; first | done | rfl))) | (refine ⟨?_, ?_, ?_⟩ <;> first | rfl | (rw [ZAF]; first | done | rfl) | (rw [natL]; first | done | rfl))) ?_; conv => whnf) | rw [natI] | rw [ZAF] | ((first | refine ZAA hP h0 ?_ | refine ZAB hP h0 ?_); (conv => whnf); refine zA ?_; conv => whnf) | ((first | refine ZAA hP ha ?_ | refine ZAB hP ha ?_); (conv => whnf); refine zA ?_; conv => whnf) | ((first | refine ZAA hP hb ?_ | refine ZAB hP hb ?_); (conv => whnf); refine zA ?_; conv => whnf) | ((first | refine ZAA hP hc ?_ | refine ZAB hP hc ?_); (conv => whnf); refine zA ?_; conv => whnf) | ((first | refine ZAA hP hd ?_ | refine ZAB hP hd ?_); (conv => whnf); refine zA ?_; conv => whnf) | ((first | refine ZAm hP hst ?_ | refine ZAh hP hst ?_ | refine ZAm hP hsp ?_ | refine ZAh hP hsp ?_); (conv => whnf); refine zA ?_; conv => whnf) | (refine arW ?_; conv => whnf)))
   (refine ZAC ?_; conv => whnf); refine ⟨rfl, rfl, rfl, ?_, ?_, rfl⟩
   ·rfl
   ·first
     | exact ⟨rfl, ZAD, ZAD, ⟨rfl, rfl, fun j hj => rfl⟩, ⟨rfl, rfl, fun j hj => updM X.sp t _ j⟩, trivial⟩
     | exact ⟨rfl, ZAD, ZAD, ⟨rfl, rfl, fun j hj => ZOi _ _ _ _ _ _ j hj⟩, ⟨rfl, rfl, fun j hj => updM X.sp t _ j⟩, trivial⟩
theorem ZL4 (n nw ty : Nat) (hs : Nat -> Int) (X : MS) (t : Nat) (v : Int) (ht : t < n) (hn : n <= 64) (hnw : nw <= 4096) (hT : X.S.T = ty) (hok : X.S.inv n) (hi : X.i <= 90000) (hv : X.S.ss.st t = v) (hv2 : v = 1 \/ v = 3) (e : Int) (l : Bool) (S' : LK) (s' : PS) (hr : X.mid n nw t = (⟨e, false, true, l⟩, S', s')) :
  ZAH Tryz.prog 94 (ZCB n nw ty 3 hs X) 5 [.l (.p 0 0 0 0), .l (.v (.int .i64 t))] fun x h k =>
   x = ZAb true /\ k = 6 /\ h = ZCB n nw ty 5 hs ((MS.mk S' s' X.i X.rows X.now X.idle (updF X.sp t (incZ (X.sp t)))).did ⟨e, false, true, l⟩ t) := by
 have hst := ZFQ X.S n t hn
 have hin : inW n (t : Int) = true := by simp [inW]; omega
 simp only [stV, hin, pick, Int.toNat_natCast, hv] at hst
 have hsp := ZLL X.S n n nw t t X.now hs X.s ht hn hn hnw hok
 unfold MS.mid at hr
 rw [hr] at hsp
 rw [hT] at hst hsp
 refine sE Tryz.func94 ic94_eq [.t 4] fun G hP hA => ?_
 unfold evF ic94 MS.did
 rcases hv2 with rfl | rfl
 all_goals
  have h0 := ZAp ty n (X.i) X.now X.idle 3 t (X.rows) (by omega)
  have ha := ZAp ty n (X.i + 1) X.now X.idle 4 t (ZCL (X.rows) (X.i) (rowT 3 t X.now false)) (by omega)
  have hb := ZAp ty n (X.i + 1) X.now X.idle 5 t (ZCL (X.rows) (X.i) (rowT 3 t X.now false)) (by omega)
  have hc := ZAp ty n (X.i + 1) X.now X.idle 8 t (ZCL (X.rows) (X.i) (rowT 3 t X.now false)) (by omega)
  have hd := ZAp ty n (X.i + 1) X.now X.idle 7 t (ZCL (X.rows) (X.i) (rowT 3 t X.now false)) (by omega)
  by_cases e1 : e = 1 <;> by_cases e2 : e = 2 <;> by_cases e6 : e = 6 <;> by_cases e3 : e = 3
  all_goals first | (exfalso; omega) | skip
  all_goals
   simp only [e1, e2, e6, e3, Int.reduceEq, decide_true, decide_false, pick]
   conv => whnf
   (repeat (first | (rw [natL]) | ((first | refine aI ?_ | refine a64 ?_ | refine a32 ?_ | refine dY ?_ | refine dN ?_ | refine ZAE ?_ | refine dI hP ?_); conv => whnf) | (refine And.intro (by (conv => whnf); first | exact ⟨rfl, rfl, rfl⟩ | (refine And.intro (by (first | omega | assumption | (simp only [ZAI]; omega) | (simp [ZAI]; omega))) ?_; (conv => whnf); first | exact ⟨rfl, rfl, rfl⟩ | (refine ⟨?_, ?_, ?_⟩ <;> first | rfl | (rw [ZAF]; first | done | rfl) | (rw [natL]; first | done | rfl))) | (refine ⟨?_, ?_, ?_⟩ <;> first | rfl | (rw [ZAF]; first | done | rfl) | (rw [natL]; first | done | rfl))) ?_; conv => whnf) | rw [natI] | rw [ZAF] | ((first | refine ZAA hP h0 ?_ | refine ZAB hP h0 ?_); (conv => whnf); refine zA ?_; conv => whnf) | ((first | refine ZAA hP ha ?_ | refine ZAB hP ha ?_); (conv => whnf); refine zA ?_; conv => whnf) | ((first | refine ZAA hP hb ?_ | refine ZAB hP hb ?_); (conv => whnf); refine zA ?_; conv => whnf) | ((first | refine ZAA hP hc ?_ | refine ZAB hP hc ?_); (conv => whnf); refine zA ?_; conv => whnf) | ((first | refine ZAA hP hd ?_ | refine ZAB hP hd ?_); (conv => whnf); refine zA ?_; conv => whnf) | ((first | refine ZAm hP hst ?_ | refine ZAh hP hst ?_ | refine ZAm hP hsp ?_ | refine ZAh hP hsp ?_); (conv => whnf); refine zA ?_; conv => whnf) | (refine arW ?_; conv => whnf)))
   (refine ZAC ?_; conv => whnf); refine ⟨rfl, rfl, rfl, ?_, ?_, rfl⟩
   ·rfl
   ·first
     | exact ⟨rfl, ZAD, ZAD, ⟨rfl, rfl, fun j hj => rfl⟩, ⟨rfl, rfl, fun j hj => updM X.sp t _ j⟩, trivial⟩
     | exact ⟨rfl, ZAD, ZAD, ⟨rfl, rfl, fun j hj => ZOi _ _ _ _ _ _ j hj⟩, ⟨rfl, rfl, fun j hj => updM X.sp t _ j⟩, trivial⟩
theorem ZL5 (n nw ty : Nat) (hs : Nat -> Int) (X : MS) (t : Nat) (v : Int) (ht : t < n) (hn : n <= 64) (hnw : nw <= 4096) (hT : X.S.T = ty) (hok : X.S.inv n) (hi : X.i <= 90000) (hv : X.S.ss.st t = v) (hv2 : v = 1 \/ v = 3) (e : Int) (l : Bool) (S' : LK) (s' : PS) (hr : X.mid n nw t = (⟨e, false, false, l⟩, S', s')) :
  ZAH Tryz.prog 94 (ZCB n nw ty 3 hs X) 5 [.l (.p 0 0 0 0), .l (.v (.int .i64 t))] fun x h k =>
   x = ZAb true /\ k = 6 /\ h = ZCB n nw ty 5 hs ((MS.mk S' s' X.i X.rows X.now X.idle (updF X.sp t (incZ (X.sp t)))).did ⟨e, false, false, l⟩ t) := by
 have hst := ZFQ X.S n t hn
 have hin : inW n (t : Int) = true := by simp [inW]; omega
 simp only [stV, hin, pick, Int.toNat_natCast, hv] at hst
 have hsp := ZLL X.S n n nw t t X.now hs X.s ht hn hn hnw hok
 unfold MS.mid at hr
 rw [hr] at hsp
 rw [hT] at hst hsp
 refine sE Tryz.func94 ic94_eq [.t 4] fun G hP hA => ?_
 unfold evF ic94 MS.did
 rcases hv2 with rfl | rfl
 all_goals
  have ha := ZAp ty n (X.i) X.now X.idle 4 t (X.rows) (by omega)
  have hb := ZAp ty n (X.i) X.now X.idle 5 t (X.rows) (by omega)
  have hc := ZAp ty n (X.i) X.now X.idle 8 t (X.rows) (by omega)
  have hd := ZAp ty n (X.i) X.now X.idle 7 t (X.rows) (by omega)
  by_cases e1 : e = 1 <;> by_cases e2 : e = 2 <;> by_cases e6 : e = 6 <;> by_cases e3 : e = 3
  all_goals first | (exfalso; omega) | skip
  all_goals
   simp only [e1, e2, e6, e3, Int.reduceEq, decide_true, decide_false, pick]
   conv => whnf
   (repeat (first | (rw [natL]) | ((first | refine aI ?_ | refine a64 ?_ | refine a32 ?_ | refine dY ?_ | refine dN ?_ | refine ZAE ?_ | refine dI hP ?_); conv => whnf) | (refine And.intro (by (conv => whnf); first | exact ⟨rfl, rfl, rfl⟩ | (refine And.intro (by (first | omega | assumption | (simp only [ZAI]; omega) | (simp [ZAI]; omega))) ?_; (conv => whnf); first | exact ⟨rfl, rfl, rfl⟩ | (refine ⟨?_, ?_, ?_⟩ <;> first | rfl | (rw [ZAF]; first | done | rfl) | (rw [natL]; first | done | rfl))) | (refine ⟨?_, ?_, ?_⟩ <;> first | rfl | (rw [ZAF]; first | done | rfl) | (rw [natL]; first | done | rfl))) ?_; conv => whnf) | rw [natI] | rw [ZAF] | ((first | refine ZAA hP ha ?_ | refine ZAB hP ha ?_); (conv => whnf); refine zA ?_; conv => whnf) | ((first | refine ZAA hP hb ?_ | refine ZAB hP hb ?_); (conv => whnf); refine zA ?_; conv => whnf) | ((first | refine ZAA hP hc ?_ | refine ZAB hP hc ?_); (conv => whnf); refine zA ?_; conv => whnf) | ((first | refine ZAA hP hd ?_ | refine ZAB hP hd ?_); (conv => whnf); refine zA ?_; conv => whnf) | ((first | refine ZAm hP hst ?_ | refine ZAh hP hst ?_ | refine ZAm hP hsp ?_ | refine ZAh hP hsp ?_); (conv => whnf); refine zA ?_; conv => whnf) | (refine arW ?_; conv => whnf)))
   (refine ZAC ?_; conv => whnf); refine ⟨rfl, rfl, rfl, ?_, ?_, rfl⟩
   ·rfl
   ·first
     | exact ⟨rfl, ZAD, ZAD, ⟨rfl, rfl, fun j hj => rfl⟩, ⟨rfl, rfl, fun j hj => updM X.sp t _ j⟩, trivial⟩
     | exact ⟨rfl, ZAD, ZAD, ⟨rfl, rfl, fun j hj => ZOi _ _ _ _ _ _ j hj⟩, ⟨rfl, rfl, fun j hj => updM X.sp t _ j⟩, trivial⟩
end Go.Proofs.YtlkfolopbehikaaGreat
