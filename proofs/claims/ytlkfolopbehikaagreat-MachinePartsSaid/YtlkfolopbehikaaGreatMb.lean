/- part · part · part · part · part · part · part · part · part · part · part · part · part · part · part · part · part · part -/
import Derived.Test.YtlkfolopbehikaaGreatMa
import Derived.Test.YtlkfolopbehikaaGreatSxPU
import Derived.Test.YtlkfolopbehikaaGreatSxPS
set_option linter.unusedSimpArgs false
set_option linter.unusedVariables false
set_option maxHeartbeats 8000000
set_option maxRecDepth 8000
namespace Go.Proofs.YtlkfolopbehikaaGreat
open Go Go.Sx
theorem ZAC.sup {P : Program} {f : FuncId} {α : Type} {k : Nat} {ks : List Nat} {R : α -> List Go.Sx.Loc -> Go.Sx.Loc -> List Nat -> World -> Prop} {h : Heap} {np : Nat} {args : List AV} {Q : SV -> Heap -> Nat -> Prop} (hb : ZCW P f = true) (hs : ∀ a ls, ZCc (R a ls))
  (hk : hget h k = some (.ob ks fun ls l F w => ∃ a, R a ls l F w)) (H : ∀ a, ZAC P f ((k, some (.ob ks (R a))) :: h) np args Q) : ZAC P f h np args Q := by
 refine ⟨hb, fun ρ φ w hm hok hgw hgf => ?_⟩
 obtain ⟨s1, s2, a, s3⟩ := hm.at_ k _ hk
 have hm2 := ZGl hm hk rfl (e' := .ob ks (R a)) ⟨hs a _, s2, s3⟩
 have own : ∀ b, Own ((k, some (.ob ks (R a))) :: h) φ b -> Own h φ b := fun b ⟨j, e, hj, ho, hb⟩ => by
  rw [ZAJ] at hj
  split at hj
  ·rename_i hh; subst hh; exact ⟨k, _, hk, rfl, hb⟩
  ·exact ⟨j, e, hj, ho, hb⟩
 refine ((H a).2 ρ φ w hm2 hok hgw fun b vs hb ho => hgf b vs hb (own b ho)).mono fun e w' ⟨x, h', n', ρ', φ', q1, q2, q3, q4, q5, q6, q7, q8⟩ =>
  ⟨x, h', n', ρ', φ', q1, q2, q3, q4, q5, q6, ⟨q7.size, fun b hb hn => q7.blk b hb fun ho => hn (own b ho), q7.os, q7.tape, q7.output⟩, fun j e' hj ho b hb => ?_⟩
 rcases q8 j e' hj ho b hb with h1 | h1
 ·exact .inl (own b h1)
 ·exact .inr h1
theorem ZHj (E T : Nat) (row : Nat -> Nat -> List Value) (val : Nat -> Value) (t : Nat) (ht : t < T) (hE : E <= 1000000) :
  ZAC Tryz.prog 159 [(0, some (.ob [] (ZEl E row T val)))] 1 [.l (.v (val t))] fun x h n => x = .o (.l (.s 1 1 0 E 0)) /\ n = 2 /\ h = [(0, some (.ob [] (ZEl E row T val))), (1, some (.ar 1 E (row t)))] := by
 have hc := ZGN (row t) E hE
 refine ⟨hc.1, fun ρ φ w hm hok hgw hgf => ?_⟩
 obtain ⟨s1, s2, L, Fs, s3, s4⟩ := hm.at_ 0 _ rfl
 obtain ⟨v1, v2⟩ := s3 t ht
 have hsz : ∀ b ∈ φ 0, b < w.heap.size := hm.sz 0 _ rfl
 have hm1 : HM [(0, some (.ro 1 E (row t)))] (lt 1) (fun _ => L t) (fun _ => Fs t) w := by
  refine ⟨fun k e hk => ?_, fun k e hk => ?_, fun k k' e e' hk hk' hne ho => ?_, fun k e hk b hb => ?_⟩
  ·rw [ZAJ] at hk
   split at hk
   ·cases hk
    exact ZCU.at_ (ι := id) (e' := .ar 1 E (row t)) (ρ := fun _ => L t) (D := lt 1) (D' := lt 1) ⟨rfl, Nat.le_refl _, fun _ _ => rfl⟩ (fun _ h => h) v2
   ·cases hk
  ·rw [ZAJ] at hk
   split at hk
   ·rename_i hh; subst hh; exact Nat.zero_lt_one
   ·cases hk
  ·rw [ZAJ] at hk
   split at hk
   ·cases hk; cases ho
   ·cases hk
  ·rw [ZAJ] at hk
   split at hk
   ·cases hk; exact hsz b ((s4 b).2 ⟨t, ht, hb⟩)
   ·cases hk
 have hargs : [AV.l (LV.v (val t))].map (AV.at ρ) = [AV.l (LV.s 0 1 0 E 0)].map (AV.at fun _ => L t) := by
  show [val t] = [(LV.s 0 1 0 E 0).at fun _ => L t]
  rw [v1]
 rw [hargs]
 have hoks : ∀ x ∈ [AV.l (LV.s 0 1 0 E 0)], x.ok (fun _ => L t) (lt 1) := fun x hx => by
  simp only [List.mem_singleton] at hx
  subst hx
  refine ⟨Nat.zero_lt_one, fun hn => ?_, fun hn => ⟨?_, .inl (dof0 _ _), Nat.le_refl _⟩⟩
  ·rcases v2 with ⟨_, h, _⟩ | ⟨h, _⟩
   ·exact h
   ·rw [hn] at h; cases h
  ·rcases v2 with ⟨h, _⟩ | ⟨_, _, _, h, _⟩
   ·rw [hn] at h; cases h
   ·rw [Nat.zero_add]; exact h
 have noown : ∀ b, ¬ Own [(0, some (Ent.ro 1 E (row t)))] (fun _ => Fs t) b := fun b ⟨k, e, hk, ho, hb⟩ => by
  rw [ZAJ] at hk
  split at hk
  ·cases hk; cases ho
  ·cases hk
 refine (hc.2 _ _ w hm1 hoks hgw fun b vs hb ho => absurd ho (noown b)).mono fun e w' ⟨x, h', n', ρ', φ', q1, ⟨qx, qn, qh⟩, q3, q4, q5, q6, q7, q8⟩ => ?_
 subst qx qn qh
 have hfresh : ∀ b ∈ φ' 1, w.heap.size <= b := fun b hb => by
  rcases q8 1 _ rfl rfl b hb with h1 | h1
  ·exact absurd h1 (noown b)
  ·exact h1
 have hkeep : ∀ b ∈ φ 0, w'.heap[b]? = w.heap[b]? := fun b hb => q7.blk b (hsz b hb) (noown b)
 refine ⟨_, _, 2, fun k => if k = 0 then ρ 0 else ρ' k, fun k => if k = 0 then φ 0 else φ' k, ?_, ⟨rfl, rfl, rfl⟩, by omega, fun k hk => ?_, ⟨fun k e hk => ?_, fun k e hk => ?_, fun k k' e e' hk hk' hne ho b hb hb' => ?_, fun k e hk b hb => ?_⟩, ?_, ⟨q7.size, fun b hb _ => q7.blk b hb (noown b), q7.os, q7.tape, q7.output⟩, fun k e hk ho b hb => ?_⟩
 ·rw [q1]
  exact congrArg Ending.returned (show (LV.s 1 1 0 E 0).at ρ' = (LV.s 1 1 0 E 0).at (fun k => if k = 0 then ρ 0 else ρ' k) from rfl)
 ·obtain rfl : k = 0 := by omega
  rfl
 ·rw [ZAJ] at hk
  split at hk
  ·rename_i hh; subst hh; cases hk
   exact ⟨ZB2 _ _ _ _ _, fun k hk => (by cases hk), ZB2 _ _ _ _ _ _ _ _ _ ⟨L, Fs, s3, s4⟩ hkeep⟩
  ·rename_i hh
   rw [ZAJ] at hk
   split at hk
   ·rename_i h1; subst h1; cases hk
    exact q5.at_ 1 _ rfl
   ·cases hk
 ·rw [ZAJ] at hk
  split at hk
  ·rename_i hh; subst hh; exact Nat.zero_lt_two
  ·rw [ZAJ] at hk
   split at hk
   ·rename_i h1; subst h1; exact Nat.one_lt_two
   ·cases hk
 ·have c1 : ∀ j ej, hget [(0, some (Ent.ob [] (ZEl E row T val))), (1, some (Ent.ar 1 E (row t)))] j = some ej -> j = 0 \/ j = 1 := fun j ej hj => by
   rw [ZAJ] at hj
   split at hj
   ·rename_i hh; exact .inl hh.symm
   ·rw [ZAJ] at hj
    split at hj
    ·rename_i h1; exact .inr h1.symm
    ·cases hj
  rcases c1 k e hk with rfl | rfl <;> rcases c1 k' e' hk' with rfl | rfl
  ·exact hne rfl
  ·have h1 := hsz b hb
   have h2 := hfresh b hb'
   omega
  ·have h1 := hsz b hb'
   have h2 := hfresh b hb
   omega
  ·exact hne rfl
 ·rw [ZAJ] at hk
  split at hk
  ·rename_i hh; subst hh
   exact Nat.lt_of_lt_of_le (hsz b hb) q7.size
  ·rename_i hh
   rw [ZAJ] at hk
   split at hk
   ·rename_i h1; subst h1; cases hk
    exact q5.sz 1 _ rfl b hb
   ·cases hk
 ·have := q6
  exact this
 ·rw [ZAJ] at hk
  split at hk
  ·rename_i hh; subst hh; cases hk
   exact .inl ⟨0, _, rfl, rfl, hb⟩
  ·rename_i hh
   rw [ZAJ] at hk
   split at hk
   ·rename_i h1; subst h1; cases hk
    exact .inr (hfresh b hb)
   ·cases hk
def ZFd (T E : Nat) (val : Nat -> Value) : Heap := [(0, some (.st [.s 1 1 0 T 0, .s 2 1 0 (outN T E) 0])), (1, some (.ar 1 T fun j => [val j])), (2, some (.ar 1 (outN T E) (ZH7 fun _ => false))), (4, some (.ob [] (ZEl E (rowE E) T val)))]
def ZNI (T E : Nat) : List Go.Sx.Loc -> Go.Sx.Loc -> List Nat -> World -> Prop := fun ls l F w => ∃ val, ZAl (ZFd T E val) 5 ls l F w
def ZNJ (T E : Nat) : Ent := .ob [] (ZNI T E)
theorem ZEs (T E : Nat) (ls : List Go.Sx.Loc) : ZCc (ZNI T E ls) := fun l F w w' ⟨val, h⟩ hw => ⟨val, ZBO _ _ _ l F w w' h hw⟩
theorem ZNK {T E : Nat} (hT : 1 <= T) {ls : List Go.Sx.Loc} {l : Go.Sx.Loc} {F : List Nat} {w : World} (h : ZPr T E ls l F w) : ZNI T E ls l F w := by
 obtain ⟨val, ρ, φ, p1, p2, hm, p3⟩ := h
 have A := hm.at_ 3 _ rfl
 obtain ⟨Z1, Z2, L, Fs, Z3, Z4⟩ := hm.at_ 4 _ rfl
 have he : ZBV (.ob [] (ZEl E (rowE E) T fun j => if j = T - 1 then (LV.s 3 1 0 E 0).at ρ else val j)) ρ (lt 5) (ρ 4) (φ 4 ++ φ 3) w := by
  refine ⟨ZB2 _ _ _ _ _, fun k hk => (by cases hk), fun j => if j = T - 1 then ρ 3 else L j, fun j => if j = T - 1 then φ 3 else Fs j, fun j hj => ?_, fun b => ?_⟩
  ·by_cases hja : j = T - 1
   ·subst hja
    simp only [if_true]
    exact ⟨rfl, A⟩
   ·simp only [hja, if_false]
    exact Z3 j (by omega)
  ·rw [List.mem_append, Z4 b]
   constructor
   ·rintro (⟨j, hj, hb⟩ | hb)
    ·exact ⟨j, by omega, by simp only [if_neg (show ¬ j = T - 1 by omega)]; exact hb⟩
    ·exact ⟨T - 1, by omega, by simp only [if_true]; exact hb⟩
   ·rintro ⟨j, hj, hb⟩
    by_cases hja : j = T - 1
    ·subst hja
     simp only [if_true] at hb; exact .inr hb
    ·simp only [if_neg hja] at hb; exact .inl ⟨j, by omega, hb⟩
 have hm1 := ZLj (k := 3) (kz := 4) hm (by decide) (hk := rfl) rfl (hz := rfl) rfl he
 obtain ⟨⟨c1, c2, c3, c4, c5⟩, ⟨c6, _⟩, cs, t, c7, c8, c9⟩ := hm1.at_ 1 _ rfl
 have hm2 := ZGl hm1 (k := 1) rfl rfl (e' := .ar 1 T fun j => [if j = T - 1 then (LV.s 3 1 0 E 0).at ρ else val j]) (.inr ⟨c1, c2.1 ▸ c2, c3, c4, c5, cs, t, c7, c8, fun i hi => by
  obtain ⟨d1, d2⟩ := c9 i hi
  have e0 : (if i = T - 1 then (LV.s 3 1 0 E 0).at ρ else ZKh (T - 1) val i) = (if i = T - 1 then (LV.s 3 1 0 E 0).at ρ else val i) := by
   by_cases h1 : i = T - 1
   ·simp only [h1, if_true]
   ·simp only [h1, if_false, ZKh, if_pos (show i < T - 1 by omega)]
  rw [e0] at d1 d2
  refine ⟨rfl, fun x hx => ?_, fun j hj => ?_⟩
  ·simp only [List.mem_singleton] at hx
   subst hx; exact d2
  ·obtain rfl : j = 0 := by omega
   rw [Nat.mul_one, Nat.add_zero]
   exact d1⟩)
 have hm3 := ZOJ (h' := ZFd T E fun j => if j = T - 1 then (LV.s 3 1 0 E 0).at ρ else val j) [0, 1, 2, 3, 4] hm2 rfl ⟨rfl, ⟨rfl, rfl, fun _ _ => rfl⟩, ⟨rfl, rfl, fun _ _ => rfl⟩, ⟨rfl, .inl rfl⟩, trivial⟩ rfl
 have hr : ∀ k, k < 5 -> ren1 [0, 1, 2, 3, 4] 5 k = k := by decide
 have hm4 : HM (ZFd T E fun j => if j = T - 1 then (LV.s 3 1 0 E 0).at ρ else val j) (lt 5) ρ (fun j => if j = 4 then φ 4 ++ φ 3 else φ j) w := by
  refine ⟨fun k e hk => ?_, hm3.lt, fun k k' e e' hk hk' hne ho b hb hb' => ?_, fun k e hk b hb => ?_⟩
  ·have h1 := hm3.at_ k e hk
   have h2 := hr k (hm3.lt k e hk)
   simp only [h2] at h1
   exact ZBV.mono (fun k hk => by simp only [hr k hk]) (fun _ h => h) (fun _ _ => rfl) h1
  ·have h1 := hm3.dj k k' e e' hk hk' hne ho b
   rw [hr k (hm3.lt k e hk), hr k' (hm3.lt k' e' hk')] at h1
   exact h1 hb hb'
  ·have h1 := hm3.sz k e hk b
   rw [hr k (hm3.lt k e hk)] at h1
   exact h1 hb
 refine ⟨_, ρ, _, p1, p2, hm4, fun b => ?_⟩
 rw [p3 b]
 constructor
 ·rintro ⟨k, e, hk, hb⟩
  have h5 := hm.lt k e hk
  by_cases h3 : k = 3
  ·subst h3
   exact ⟨4, _, rfl, by simp only [if_true]; exact List.mem_append.2 (.inr hb)⟩
  by_cases h4 : k = 4
  ·subst h4
   exact ⟨4, _, rfl, by simp only [if_true]; exact List.mem_append.2 (.inl hb)⟩
  ·rcases (show k = 0 \/ k = 1 \/ k = 2 by have : k < 5 := h5; omega) with rfl | rfl | rfl
   ·exact ⟨0, _, rfl, hb⟩
   ·exact ⟨1, _, rfl, hb⟩
   ·exact ⟨2, _, rfl, hb⟩
 ·rintro ⟨k, e, hk, hb⟩
  have h5 := hm4.lt k e hk
  by_cases h4 : k = 4
  ·subst h4
   simp only [if_true] at hb
   rcases List.mem_append.1 hb with hb | hb
   ·exact ⟨4, _, rfl, hb⟩
   ·exact ⟨3, _, rfl, hb⟩
  ·simp only [if_neg h4] at hb
   rcases (show k = 0 \/ k = 1 \/ k = 2 \/ k = 3 by have : k < 5 := h5; omega) with rfl | rfl | rfl | rfl
   ·exact ⟨0, _, rfl, hb⟩
   ·exact ⟨1, _, rfl, hb⟩
   ·exact ⟨2, _, rfl, hb⟩
   ·cases hk
theorem ZLv (T E : Nat) (val : Nat -> Value) (t : Nat) (ht : t < T) (hT : T <= 64) (hE : E <= 8) :
  ZAC Tryz.prog 256 (ZFd T E val) 5 [.l (.p 0 0 0 0), .l (.v (.int .i64 t))] fun x h k => x = .o (.l (.s 5 1 0 E 0)) /\ k = 6 /\ h = (5, some (.ar 1 E (rowE E t))) :: ZFd T E val := by
 have hc := ZHj E T (rowE E) val t ht (by omega)
 refine sE Tryz.func256 ic256_eq [.t 4] fun G hP hA => ?_
 unfold evF ic256
 cases hv : val t
 all_goals
  rw [hv, <- hP] at hc
  conv => whnf
  refine g0 ?_
  rw [hv]
  conv => whnf
  refine ZF1 hc [4] rfl rfl rfl ⟨⟨rfl, .inl rfl⟩, trivial⟩ rfl rfl ?_
  conv => whnf
  refine ZCm [0, 1, 2, 3, 4, 5] _ _ 6 rfl ⟨rfl, rfl, rfl⟩ rfl rfl rfl ?_ rfl
  exact ZAA
theorem ZIr (T E t : Nat) (ht : t < T) (hT : T <= 64) (hE : E <= 8) :
  ZAC Tryz.prog 256 [(0, some (ZNJ T E))] 1 [.l (.p 0 0 0 0), .l (.v (.int .i64 t))] fun x h k => x = .o (.l (.s 1 1 0 E 0)) /\ k = 2 /\ h = [(0, some (ZNJ T E)), (1, some (.ar 1 E (rowE E t)))] := by
 refine ZAC.sup (k := 0) (by kernel_rfl) (fun val ls => ZBO (ZFd T E val) 5 ls) rfl fun val => ?_
 have h1 := ZLv T E val t ht hT hE
 refine ZAC.refin (ZAC.ghost (ZAY 0 (ks := []) (H := ZFd T E val) (np := 5) rfl (by decide) rfl rfl rfl) (ZAC.pre h1 ?_)) ?_
 ·exact ZAA
 ·rintro x h n ⟨rfl, rfl, rfl⟩ _
  refine ZA7 (ZCS [0, 1, 2, 3, 4] (H := ZFd T E val) (np := 5) 0 rfl (by decide) rfl rfl ?_ rfl) (by decide) ?_
  ·exact ZAA
  conv => whnf
  refine fQ ?_ ?_
  ·rfl
  ·exact ⟨⟨rfl, .inr ⟨fun ls => ZEs _ _ _, fun ls l F w hh => ⟨val, hh⟩⟩⟩, ZAA, trivial⟩
structure AL where
 ss : SS
 sp : Nat -> Int
 tr : Nat -> Int
 no : Nat -> Int
 ot : Nat -> Int
def ZBs (m E : Nat) (tail : Int) (st dl stp tr no ot : Nat -> Int) : Heap := [(0, some (.st [.p 2 0 0 0, .p 1 0 0 0, .p 3 0 0 0, .v (.int .i64 tail), .s 4 4 0 m 0])), (2, some (ZBZ m st dl true false)), (3, some (ZNJ m E)), (4, some (.ar 4 m (ZBc stp tr no ot)))]
def ZEt (n E nt nw : Nat) (tail : Int) (hs : Nat -> Int) (L : AL) (s : PS) : Heap := (1, some (ZBK nt nw hs s)) :: ZBs n E tail L.ss.st L.ss.dl L.sp L.tr L.no L.ot
def ZLM (n E nt nw : Nat) (tail : Int) (hs : Nat -> Int) (t : Nat) (L : AL) (s : PS) : Heap := (5, some (.ar 1 E (rowE E t))) :: ZEt n E nt nw tail hs L s
def abA (tail k : Int) : Int := i64w (i64w (tail + i64w (3 * k)) - 2)
def abS (n : Nat) (tail : Int) : Heap := [(0, some (.st [.p 2 0 0 0, .p 1 0 0 0, .p 3 0 0 0, .v (.int .i64 tail), .s 4 4 0 n 0]))]
theorem ZDq (n : Nat) (tail u : Int) :
  ZAC Tryz.prog 258 (abS n tail) 5 [.l (.p 0 0 0 0), .l (.v (.int .i64 u))] fun x h m => x = sInt .i64 (abA tail u) /\ m = 5 /\ h = abS n tail := by
 refine sE Tryz.func258 ic258_eq [.t 4] fun G hP hA => ?_
 unfold evF ic258
 conv => whnf
 refine g0 ?_
 exact fA
def abN (E t : Nat) (k : Int) : Int := (t : Int) * E + (k.toNat : Int) + 1
def abSr (E nw : Nat) (tail : Int) (t ta : Nat) (L : AL) (s : PS) : Dd × AL × PS :=
 let a := i64w (abA tail (abN E t (L.tr t)) + 2)
 (evD (pick (decide (rdV nw a s = 0)) 0 (pick (decide (L.tr t + 1 = (E : Int))) 6 0)), ⟨L.ss, pick (decide (rdV nw a s = 0)) (updF L.sp t 1) L.sp, updF L.tr t (L.tr t + 1), updF L.no t (abN E t (L.tr t)), L.ot⟩, rdS nw ta a s)
def abNx (L : AL) (t : Nat) (k : Int) : AL := ⟨L.ss, updF L.sp t k, L.tr, L.no, L.ot⟩
def abLk (E nw : Nat) (tail : Int) (t ta : Nat) (late : Bool) (L : AL) (s : PS) : Dd × AL × PS :=
 let a := abA tail (L.no t)
 pick (decide (L.sp t = 0)) (abSr E nw tail t ta L s)
 (pick (decide (L.sp t = 1)) (evD 0, abNx L t 2, wtS nw ta (i64w (a + 2)) 1 s)
 (pick (decide (L.sp t = 2)) (evD 0, abNx L t 3, wtS nw ta a 0 s)
 (pick (decide (L.sp t = 3)) (evD 0, abNx L t 4, wtS nw ta (i64w (a + 1)) 0 s)
 (pick (decide (L.sp t = 4)) (⟨pick (decide (i64w (rdV nw tail s) = 0)) 1 0, true, false, false⟩, ⟨L.ss, pick (decide (i64w (rdV nw tail s) = 0)) L.sp (updF L.sp t 5), L.tr, L.no, updF L.ot t (i64w (rdV nw tail s))⟩, wtS nw ta tail (u32w (L.no t)) s)
 (pick (decide (L.sp t = 5)) (evD 0, abNx L t 6, wtS nw ta (i64w (abA tail (L.ot t) + 1)) (u32w (L.no t)) s)
 (pick (decide (L.sp t = 6)) (evD (pick (decide (rdV nw a s = 0)) 0 1), pick (decide (rdV nw a s = 0) && late) (abNx L t 7) L, rdS nw ta a s)
 (pick (decide (L.sp t = 7)) (evD (pick (casB nw a 0 s) 2 1), L, casS nw ta a 0 2 s)
  (evD 0, abNx L t (i64w (L.sp t + 1)), s))))))))
def abUl (nw : Nat) (tail : Int) (t ta : Nat) (L : AL) (s : PS) : Int × AL × PS :=
 let a := abA tail (L.no t)
 let o := i64w (rdV nw (i64w (a + 1)) s)
 pick (decide (L.sp t = 0) || decide (L.sp t = 2)) (0, ⟨L.ss, pick (decide (o = 0)) (pick (decide (L.sp t = 0)) (updF L.sp t 1) L.sp) (updF L.sp t 3), L.tr, L.no, updF L.ot t o⟩, rdS nw ta (i64w (a + 1)) s)
 (pick (decide (L.sp t = 1)) (0, abNx L t (pick (casB nw tail (u32w (L.no t)) s) 5 2), casS nw ta tail (u32w (L.no t)) 0 s)
 (pick (decide (L.sp t = 3)) (0, abNx L t (pick (casB nw (abA tail (L.ot t)) 0 s) 5 4), casS nw ta (abA tail (L.ot t)) 0 1 s)
 (pick (decide (L.sp t = 4)) (0, ⟨L.ss, updF L.sp t 0, updF L.tr t 0, updF L.no t (L.ot t), updF L.ot t 0⟩, wtS nw ta (i64w (a + 2)) 0 s)
 (pick (decide (L.sp t = 5)) (3, L, wtS nw ta (i64w (a + 2)) 0 s)
  (0, L, s)))))
def ZLN (dl : Nat -> Int) (t : Nat) (now : Int) : Bool := decide (0 <= dl t) && decide (dl t <= now)
def ZLw (E nw : Nat) (tail : Int) (t ta : Nat) (now : Int) (L : AL) (s : PS) : Dd × AL × PS :=
 pick (decide (L.ss.st t = 1)) (abLk E nw tail t ta (ZLN L.ss.dl t now) L s) (pick (decide (L.ss.st t = 3)) (evD (abUl nw tail t ta L s).1, (abUl nw tail t ta L s).2) (evD 0, L, s))
def ZIs (t : Nat) (r : Dd × AL × PS) : Dd × AL × PS :=
 (r.1, pick (enB r.2.1.ss.st t r.1.e) ⟨enSS r.2.1.ss t r.1.e, updF r.2.1.sp t 0, updF r.2.1.tr t 0, r.2.1.no, updF r.2.1.ot t 0⟩ ⟨enSS r.2.1.ss t r.1.e, r.2.1.sp, r.2.1.tr, r.2.1.no, r.2.1.ot⟩, r.2.2)
def ZBy (E n nw : Nat) (tail : Int) (t now : Int) (ta : Nat) (L : AL) (s : PS) : Dd × AL × PS :=
 match inW n t with | true => ZIs t.toNat (ZLw E nw tail t.toNat ta now L s) | false => (evD 0, L, s)
def abOk (n E : Nat) (L : AL) : Prop := ∀ t, t < n -> L.ss.st t = 1 -> L.sp t = 0 -> 0 <= L.tr t /\ L.tr t < E
theorem ZDN (sp tr no ot : Nat -> Int) (i : Nat) (v : Int) (j : Nat) : mrgL (j = i) (ZAG (ZBc sp tr no ot j) 0 [.int .i64 v]) (ZBc sp tr no ot j) = ZBc (updF sp i v) tr no ot j := by
 simp only [ZBc, updF, ZAG, setL, mrgL, ZBB]
 by_cases h : j = i <;> simp [h]
theorem ZDO (sp tr no ot : Nat -> Int) (i : Nat) (v : Int) (j : Nat) : mrgL (j = i) (ZAG (ZBc sp tr no ot j) 1 [.int .i64 v]) (ZBc sp tr no ot j) = ZBc sp (updF tr i v) no ot j := by
 simp only [ZBc, updF, ZAG, setL, mrgL, ZBB]
 by_cases h : j = i <;> simp [h]
theorem ZDP (sp tr no ot : Nat -> Int) (i : Nat) (v : Int) (j : Nat) : mrgL (j = i) (ZAG (ZBc sp tr no ot j) 2 [.int .i64 v]) (ZBc sp tr no ot j) = ZBc sp tr (updF no i v) ot j := by
 simp only [ZBc, updF, ZAG, setL, mrgL, ZBB]
 by_cases h : j = i <;> simp [h]
theorem ZDQ (sp tr no ot : Nat -> Int) (i : Nat) (v : Int) (j : Nat) : mrgL (j = i) (ZAG (ZBc sp tr no ot j) 3 [.int .i64 v]) (ZBc sp tr no ot j) = ZBc sp tr no (updF ot i v) j := by
 simp only [ZBc, updF, ZAG, setL, mrgL, ZBB]
 by_cases h : j = i <;> simp [h]
theorem ZOk (sp tr no ot : Nat -> Int) (i : Nat) (a b c d : Int) (j : Nat) : mrgL (j = i) (ZAG (ZBc sp tr no ot j) 0 [.int .i64 a, .int .i64 b, .int .i64 c, .int .i64 d]) (ZBc sp tr no ot j) = ZBc (updF sp i a) (updF tr i b) (updF no i c) (updF ot i d) j := by
 simp only [ZBc, updF, ZAG, setL, mrgL, ZBB]
 by_cases h : j = i <;> simp [h]
theorem ZPg (f : Nat -> Int) (i : Nat) : updF f i (f i) = f := by
 funext j
 simp only [updF]
 by_cases h : j = i <;> simp [h]
theorem ZNL (n E nt nw t ta : Nat) (tail : Int) (hs : Nat -> Int) (L : AL) (s : PS) (ht : t < n) (hta : ta < nt) (hnt : nt <= 64) (hn : n <= 64) (hE : E <= 8) (hnw : nw <= 4096) (htr : 0 <= L.tr t /\ L.tr t < E) :
  ZAC Tryz.prog 259 (ZLM n E nt nw tail hs t L s) 6 [.l (.p 0 0 0 0), .l (.p 4 4 t 0), .l (.s 5 1 0 E 0), .l (.v (.int .i64 ta))] fun x h k =>
   x = didO (abSr E nw tail t ta L s).1 /\ k = 6 /\ h = ZLM n E nt nw tail hs t (abSr E nw tail t ta L s).2.1 (abSr E nw tail t ta L s).2.2 := by
 obtain ⟨q, hq⟩ : ∃ q : Nat, L.tr t = (q : Int) := ⟨(L.tr t).toNat, by omega⟩
 have fa := ZDq n tail (abN E t (L.tr t))
 have h1 := ldS nt nw hs s ta (i64w (abA tail (abN E t (L.tr t)) + 2)) hta hnt hnw
 have hna : nadd 0 (L.tr t).toNat = (L.tr t).toNat := by simp [ZAI]
 refine sE Tryz.func259 ic259_eq [.ca 8 4] fun G hP hA => ?_
 unfold evF ic259 abSr
 by_cases ez : rdV nw (i64w (abA tail (abN E t (L.tr t)) + 2)) s = 0
 ·simp only [ez, decide_true, pick]
  conv => whnf
  refine g2 fa h1 ?_
  rw [hna]
  conv => whnf
  refine g2 fa h1 ?_
  refine fQ ?_ ?_
  ·rfl
  ·exact ⟨ZAA, ZAA, rfl, ZAA, ZAA, ⟨rfl, rfl, fun j hj => by simp only [Nat.zero_add, ZDN, ZDO, ZDP, ZDQ, ZA1] <;> rfl⟩, trivial⟩
 by_cases el : L.tr t + 1 = (E : Int)
 ·simp only [ez, el, decide_true, decide_false, pick]
  conv => whnf
  refine g2 fa h1 ?_
  rw [hna]
  conv => whnf
  refine g2 fa h1 ?_
  refine fQ ?_ ?_
  ·rfl
  ·exact ⟨ZAA, ZAA, rfl, ZAA, ZAA, ⟨rfl, rfl, fun j hj => by simp only [Nat.zero_add, ZDN, ZDO, ZDP, ZDQ, ZA1, el] <;> rfl⟩, trivial⟩
 ·simp only [ez, el, decide_false, pick]
  conv => whnf
  refine g2 fa h1 ?_
  rw [hna]
  conv => whnf
  refine g2 fa h1 ?_
  refine fQ ?_ ?_
  ·rfl
  ·exact ⟨ZAA, ZAA, rfl, ZAA, ZAA, ⟨rfl, rfl, fun j hj => by simp only [Nat.zero_add, ZDN, ZDO, ZDP, ZDQ, ZA1] <;> rfl⟩, trivial⟩
theorem ZNM (n E nt nw t ta : Nat) (tail : Int) (hs : Nat -> Int) (late : Bool) (L : AL) (s : PS) (ht : t < n) (hta : ta < nt) (hnt : nt <= 64) (hn : n <= 64) (hE : E <= 8) (hnw : nw <= 4096) (htr : L.sp t = 0 -> 0 <= L.tr t /\ L.tr t < E) :
  ZAC Tryz.prog 255 (ZLM n E nt nw tail hs t L s) 6 [.l (.p 0 0 0 0), .l (.p 4 4 t 0), .l (.s 5 1 0 E 0), .l (.v (.int .i64 ta)), .l (.v (.bool late))] fun x h k =>
   x = didO (abLk E nw tail t ta late L s).1 /\ k = 6 /\ h = ZLM n E nt nw tail hs t (abLk E nw tail t ta late L s).2.1 (abLk E nw tail t ta late L s).2.2 := by
 have fno := ZDq n tail (L.no t)
 have fot := ZDq n tail (L.ot t)
 refine sE Tryz.func255 ic255_eq [.ca 10 4] fun G hP hA => ?_
 unfold evF ic255 abLk
 by_cases e0 : L.sp t = 0
 ·have h1 := ZNL n E nt nw t ta tail hs L s ht hta hnt hn hE hnw (htr e0)
  simp only [e0, decide_true, decide_false, pick, Bool.not_true, Bool.not_false, Bool.true_or, Bool.or_true, Bool.false_or, Bool.or_false, Bool.true_and, Bool.and_true, Bool.false_and, Bool.and_false, abNx]
  generalize abSr E nw tail t ta L s = r at h1 ⊢
  conv => whnf
  refine g2 fno h1 ?_
  exact fA
 by_cases e1 : L.sp t = 1
 ·have h1 := stS nt nw hs s ta (i64w ((abA tail (L.no t)) + 2)) 1 hta hnt hnw
  simp only [Int.reduceEq, e0, e1, decide_true, decide_false, pick, Bool.not_true, Bool.not_false, Bool.true_or, Bool.or_true, Bool.false_or, Bool.or_false, Bool.true_and, Bool.and_true, Bool.false_and, Bool.and_false, abNx]
  conv => whnf
  refine g2 fno h1 ?_
  refine fQ ?_ ?_
  ·rfl
  ·exact ⟨ZAA, ZAA, rfl, ZAA, ZAA, ⟨rfl, rfl, fun j hj => by simp only [Nat.zero_add, ZDN, ZDO, ZDP, ZDQ, ZA1, e1] <;> rfl⟩, trivial⟩
 by_cases e2 : L.sp t = 2
 ·have h1 := stS nt nw hs s ta (abA tail (L.no t)) 0 hta hnt hnw
  simp only [Int.reduceEq, e0, e1, e2, decide_true, decide_false, pick, Bool.not_true, Bool.not_false, Bool.true_or, Bool.or_true, Bool.false_or, Bool.or_false, Bool.true_and, Bool.and_true, Bool.false_and, Bool.and_false, abNx]
  conv => whnf
  refine g2 fno h1 ?_
  refine fQ ?_ ?_
  ·rfl
  ·exact ⟨ZAA, ZAA, rfl, ZAA, ZAA, ⟨rfl, rfl, fun j hj => by simp only [Nat.zero_add, ZDN, ZDO, ZDP, ZDQ, ZA1, e2] <;> rfl⟩, trivial⟩
 by_cases e3 : L.sp t = 3
 ·have h1 := stS nt nw hs s ta (i64w ((abA tail (L.no t)) + 1)) 0 hta hnt hnw
  simp only [Int.reduceEq, e0, e1, e2, e3, decide_true, decide_false, pick, Bool.not_true, Bool.not_false, Bool.true_or, Bool.or_true, Bool.false_or, Bool.or_false, Bool.true_and, Bool.and_true, Bool.false_and, Bool.and_false, abNx]
  conv => whnf
  refine g2 fno h1 ?_
  refine fQ ?_ ?_
  ·rfl
  ·exact ⟨ZAA, ZAA, rfl, ZAA, ZAA, ⟨rfl, rfl, fun j hj => by simp only [Nat.zero_add, ZDN, ZDO, ZDP, ZDQ, ZA1, e3] <;> rfl⟩, trivial⟩
 by_cases e4 : L.sp t = 4
 ·have h1 := swS nt nw hs s ta tail (u32w (L.no t)) hta hnt hnw
  by_cases ez : i64w (rdV nw tail s) = 0
  ·have ez' : IntKind.i64.wrap (rdV nw tail s) = 0 := ez
   simp only [Int.reduceEq, e0, e1, e2, e3, e4, ez, decide_true, decide_false, pick, Bool.not_true, Bool.not_false, Bool.true_or, Bool.or_true, Bool.false_or, Bool.or_false, Bool.true_and, Bool.and_true, Bool.false_and, Bool.and_false, abNx]
   conv => whnf
   refine g2 fno h1 ?_
   refine fQ ?_ ?_
   ·rfl
   ·exact ⟨ZAA, ZAA, rfl, ZAA, ZAA, ⟨rfl, rfl, fun j hj => by simp only [Nat.zero_add, ZDN, ZDO, ZDP, ZDQ, ZA1, ez'] <;> rfl⟩, trivial⟩
  ·simp only [Int.reduceEq, e0, e1, e2, e3, e4, ez, decide_true, decide_false, pick, Bool.not_true, Bool.not_false, Bool.true_or, Bool.or_true, Bool.false_or, Bool.or_false, Bool.true_and, Bool.and_true, Bool.false_and, Bool.and_false, abNx]
   conv => whnf
   refine g2 fno h1 ?_
   refine fQ ?_ ?_
   ·rfl
   ·exact ⟨ZAA, ZAA, rfl, ZAA, ZAA, ⟨rfl, rfl, fun j hj => by simp only [Nat.zero_add, ZDN, ZDO, ZDP, ZDQ, ZA1] <;> rfl⟩, trivial⟩
 by_cases e5 : L.sp t = 5
 ·have h1 := stS nt nw hs s ta (i64w (abA tail (L.ot t) + 1)) (u32w (L.no t)) hta hnt hnw
  simp only [Int.reduceEq, e0, e1, e2, e3, e4, e5, decide_true, decide_false, pick, Bool.not_true, Bool.not_false, Bool.true_or, Bool.or_true, Bool.false_or, Bool.or_false, Bool.true_and, Bool.and_true, Bool.false_and, Bool.and_false, abNx]
  conv => whnf
  refine g3 fno fot h1 ?_
  refine fQ ?_ ?_
  ·rfl
  ·exact ⟨ZAA, ZAA, rfl, ZAA, ZAA, ⟨rfl, rfl, fun j hj => by simp only [Nat.zero_add, ZDN, ZDO, ZDP, ZDQ, ZA1, e5] <;> rfl⟩, trivial⟩
 by_cases e6 : L.sp t = 6
 ·have h1 := ldS nt nw hs s ta (abA tail (L.no t)) hta hnt hnw
  by_cases ez : rdV nw (abA tail (L.no t)) s = 0
  ·cases late with
   | true =>
    simp only [Int.reduceEq, e0, e1, e2, e3, e4, e5, e6, ez, decide_true, decide_false, pick, Bool.not_true, Bool.not_false, Bool.true_or, Bool.or_true, Bool.false_or, Bool.or_false, Bool.true_and, Bool.and_true, Bool.false_and, Bool.and_false, abNx]
    conv => whnf
    refine g2 fno h1 ?_
    refine fQ ?_ ?_
    ·rfl
    ·exact ⟨ZAA, ZAA, rfl, ZAA, ZAA, ⟨rfl, rfl, fun j hj => by simp only [Nat.zero_add, ZDN, ZDO, ZDP, ZDQ, ZA1, e6] <;> rfl⟩, trivial⟩
   | false =>
    simp only [Int.reduceEq, e0, e1, e2, e3, e4, e5, e6, ez, decide_true, decide_false, pick, Bool.not_true, Bool.not_false, Bool.true_or, Bool.or_true, Bool.false_or, Bool.or_false, Bool.true_and, Bool.and_true, Bool.false_and, Bool.and_false, abNx]
    conv => whnf
    refine g2 fno h1 ?_
    exact fA
  ·simp only [Int.reduceEq, e0, e1, e2, e3, e4, e5, e6, ez, decide_true, decide_false, pick, Bool.not_true, Bool.not_false, Bool.true_or, Bool.or_true, Bool.false_or, Bool.or_false, Bool.true_and, Bool.and_true, Bool.false_and, Bool.and_false, abNx]
   conv => whnf
   refine g2 fno h1 ?_
   exact fA
 by_cases e7 : L.sp t = 7
 ·have h1 := caS nt nw hs s ta (abA tail (L.no t)) 0 2 hta hnt hnw
  cases ec : casB nw (abA tail (L.no t)) 0 s with
  | true =>
   rw [ec] at h1
   simp only [Int.reduceEq, e0, e1, e2, e3, e4, e5, e6, e7, ec, decide_true, decide_false, pick, Bool.not_true, Bool.not_false, Bool.true_or, Bool.or_true, Bool.false_or, Bool.or_false, Bool.true_and, Bool.and_true, Bool.false_and, Bool.and_false, abNx]
   conv => whnf
   refine g2 fno h1 ?_
   exact fA
  | false =>
   rw [ec] at h1
   simp only [Int.reduceEq, e0, e1, e2, e3, e4, e5, e6, e7, ec, decide_true, decide_false, pick, Bool.not_true, Bool.not_false, Bool.true_or, Bool.or_true, Bool.false_or, Bool.or_false, Bool.true_and, Bool.and_true, Bool.false_and, Bool.and_false, abNx]
   conv => whnf
   refine g2 fno h1 ?_
   exact fA
 ·simp only [e0, e1, e2, e3, e4, e5, e6, e7, decide_true, decide_false, pick, Bool.not_true, Bool.not_false, Bool.true_or, Bool.or_true, Bool.false_or, Bool.or_false, Bool.true_and, Bool.and_true, Bool.false_and, Bool.and_false, abNx]
  conv => whnf
  refine g1 fno ?_
  refine fQ ?_ ?_
  ·rfl
  ·exact ⟨ZAA, ZAA, rfl, ZAA, ZAA, ⟨rfl, rfl, fun j hj => by simp only [Nat.zero_add, ZDN, ZDO, ZDP, ZDQ, ZA1] <;> rfl⟩, trivial⟩
theorem ZNN (n E nt nw t ta : Nat) (tail : Int) (hs : Nat -> Int) (L : AL) (s : PS) (ht : t < n) (hta : ta < nt) (hnt : nt <= 64) (hn : n <= 64) (hnw : nw <= 4096) :
  ZAC Tryz.prog 257 (ZEt n E nt nw tail hs L s) 5 [.l (.p 0 0 0 0), .l (.p 4 4 t 0), .l (.v (.int .i64 ta))] fun x h k =>
   x = sInt .i64 (abUl nw tail t ta L s).1 /\ k = 5 /\ h = ZEt n E nt nw tail hs (abUl nw tail t ta L s).2.1 (abUl nw tail t ta L s).2.2 := by
 have fno := ZDq n tail (L.no t)
 have fot := ZDq n tail (L.ot t)
 refine sE Tryz.func257 ic257_eq [.t 6] fun G hP hA => ?_
 unfold evF ic257 abUl
 by_cases e0 : L.sp t = 0
 ·have h1 := ldS nt nw hs s ta (i64w ((abA tail (L.no t)) + 1)) hta hnt hnw
  by_cases ez : i64w (rdV nw (i64w ((abA tail (L.no t)) + 1)) s) = 0
  ·have ez' : IntKind.i64.wrap (rdV nw (i64w ((abA tail (L.no t)) + 1)) s) = 0 := ez
   simp only [e0, ez, decide_true, decide_false, pick, Bool.not_true, Bool.not_false, Bool.true_or, Bool.or_true, Bool.false_or, Bool.or_false, Bool.true_and, Bool.and_true, Bool.false_and, Bool.and_false, abNx]
   conv => whnf
   refine g2 fno h1 ?_
   refine fQ ?_ ?_
   ·rfl
   ·exact ⟨ZAA, rfl, ZAA, ZAA, ⟨rfl, rfl, fun j hj => by simp only [Nat.zero_add, ZDN, ZDO, ZDP, ZDQ, ZA1, ez'] <;> rfl⟩, trivial⟩
  ·have ez' : ¬ IntKind.i64.wrap (rdV nw (i64w ((abA tail (L.no t)) + 1)) s) = 0 := ez
   simp only [e0, ez, decide_true, decide_false, pick, Bool.not_true, Bool.not_false, Bool.true_or, Bool.or_true, Bool.false_or, Bool.or_false, Bool.true_and, Bool.and_true, Bool.false_and, Bool.and_false, abNx]
   conv => whnf
   refine g2 fno h1 ?_
   refine fQ ?_ ?_
   ·rfl
   ·exact ⟨ZAA, rfl, ZAA, ZAA, ⟨rfl, rfl, fun j hj => by simp only [Nat.zero_add, ZDN, ZDO, ZDP, ZDQ, ZA1] <;> rfl⟩, trivial⟩
 by_cases e2 : L.sp t = 2
 ·have h1 := ldS nt nw hs s ta (i64w ((abA tail (L.no t)) + 1)) hta hnt hnw
  by_cases ez : i64w (rdV nw (i64w ((abA tail (L.no t)) + 1)) s) = 0
  ·have ez' : IntKind.i64.wrap (rdV nw (i64w ((abA tail (L.no t)) + 1)) s) = 0 := ez
   simp only [Int.reduceEq, e0, e2, ez, decide_true, decide_false, pick, Bool.not_true, Bool.not_false, Bool.true_or, Bool.or_true, Bool.false_or, Bool.or_false, Bool.true_and, Bool.and_true, Bool.false_and, Bool.and_false, abNx]
   conv => whnf
   refine g2 fno h1 ?_
   refine fQ ?_ ?_
   ·rfl
   ·exact ⟨ZAA, rfl, ZAA, ZAA, ⟨rfl, rfl, fun j hj => by simp only [Nat.zero_add, ZDN, ZDO, ZDP, ZDQ, ZA1, ez'] <;> rfl⟩, trivial⟩
  ·have ez' : ¬ IntKind.i64.wrap (rdV nw (i64w ((abA tail (L.no t)) + 1)) s) = 0 := ez
   simp only [Int.reduceEq, e0, e2, ez, decide_true, decide_false, pick, Bool.not_true, Bool.not_false, Bool.true_or, Bool.or_true, Bool.false_or, Bool.or_false, Bool.true_and, Bool.and_true, Bool.false_and, Bool.and_false, abNx]
   conv => whnf
   refine g2 fno h1 ?_
   refine fQ ?_ ?_
   ·rfl
   ·exact ⟨ZAA, rfl, ZAA, ZAA, ⟨rfl, rfl, fun j hj => by simp only [Nat.zero_add, ZDN, ZDO, ZDP, ZDQ, ZA1] <;> rfl⟩, trivial⟩
 by_cases e1 : L.sp t = 1
 ·have h1 := caS nt nw hs s ta tail (u32w (L.no t)) 0 hta hnt hnw
  cases ec : casB nw tail (u32w (L.no t)) s with
  | true =>
   rw [ec] at h1
   simp only [Int.reduceEq, e0, e2, e1, ec, decide_true, decide_false, pick, Bool.not_true, Bool.not_false, Bool.true_or, Bool.or_true, Bool.false_or, Bool.or_false, Bool.true_and, Bool.and_true, Bool.false_and, Bool.and_false, abNx]
   conv => whnf
   refine g3 fno fot h1 ?_
   refine fQ ?_ ?_
   ·rfl
   ·exact ⟨ZAA, rfl, ZAA, ZAA, ⟨rfl, rfl, fun j hj => by simp only [Nat.zero_add, ZDN, ZDO, ZDP, ZDQ, ZA1] <;> rfl⟩, trivial⟩
  | false =>
   rw [ec] at h1
   simp only [Int.reduceEq, e0, e2, e1, ec, decide_true, decide_false, pick, Bool.not_true, Bool.not_false, Bool.true_or, Bool.or_true, Bool.false_or, Bool.or_false, Bool.true_and, Bool.and_true, Bool.false_and, Bool.and_false, abNx]
   conv => whnf
   refine g3 fno fot h1 ?_
   refine fQ ?_ ?_
   ·rfl
   ·exact ⟨ZAA, rfl, ZAA, ZAA, ⟨rfl, rfl, fun j hj => by simp only [Nat.zero_add, ZDN, ZDO, ZDP, ZDQ, ZA1] <;> rfl⟩, trivial⟩
 by_cases e3 : L.sp t = 3
 ·have h1 := caS nt nw hs s ta (abA tail (L.ot t)) 0 1 hta hnt hnw
  cases ec : casB nw (abA tail (L.ot t)) 0 s with
  | true =>
   rw [ec] at h1
   simp only [Int.reduceEq, e0, e2, e1, e3, ec, decide_true, decide_false, pick, Bool.not_true, Bool.not_false, Bool.true_or, Bool.or_true, Bool.false_or, Bool.or_false, Bool.true_and, Bool.and_true, Bool.false_and, Bool.and_false, abNx]
   conv => whnf
   refine g3 fno fot h1 ?_
   refine fQ ?_ ?_
   ·rfl
   ·exact ⟨ZAA, rfl, ZAA, ZAA, ⟨rfl, rfl, fun j hj => by simp only [Nat.zero_add, ZDN, ZDO, ZDP, ZDQ, ZA1] <;> rfl⟩, trivial⟩
  | false =>
   rw [ec] at h1
   simp only [Int.reduceEq, e0, e2, e1, e3, ec, decide_true, decide_false, pick, Bool.not_true, Bool.not_false, Bool.true_or, Bool.or_true, Bool.false_or, Bool.or_false, Bool.true_and, Bool.and_true, Bool.false_and, Bool.and_false, abNx]
   conv => whnf
   refine g3 fno fot h1 ?_
   refine fQ ?_ ?_
   ·rfl
   ·exact ⟨ZAA, rfl, ZAA, ZAA, ⟨rfl, rfl, fun j hj => by simp only [Nat.zero_add, ZDN, ZDO, ZDP, ZDQ, ZA1] <;> rfl⟩, trivial⟩
 by_cases e4 : L.sp t = 4
 ·have h1 := stS nt nw hs s ta (i64w ((abA tail (L.no t)) + 2)) 0 hta hnt hnw
  simp only [Int.reduceEq, e0, e2, e1, e3, e4, decide_true, decide_false, pick, Bool.not_true, Bool.not_false, Bool.true_or, Bool.or_true, Bool.false_or, Bool.or_false, Bool.true_and, Bool.and_true, Bool.false_and, Bool.and_false, abNx]
  conv => whnf
  refine g2 fno h1 ?_
  refine fQ ?_ ?_
  ·rfl
  ·exact ⟨ZAA, rfl, ZAA, ZAA, ⟨rfl, rfl, fun j hj => by simp only [Nat.zero_add, ZDN, ZDO, ZDP, ZDQ, ZA1, ZOk] <;> rfl⟩, trivial⟩
 by_cases e5 : L.sp t = 5
 ·have h1 := stS nt nw hs s ta (i64w ((abA tail (L.no t)) + 2)) 0 hta hnt hnw
  simp only [Int.reduceEq, e0, e2, e1, e3, e4, e5, decide_true, decide_false, pick, Bool.not_true, Bool.not_false, Bool.true_or, Bool.or_true, Bool.false_or, Bool.or_false, Bool.true_and, Bool.and_true, Bool.false_and, Bool.and_false, abNx]
  conv => whnf
  refine g2 fno h1 ?_
  exact fA
 ·simp only [e0, e2, e1, e3, e4, e5, decide_true, decide_false, pick, Bool.not_true, Bool.not_false, Bool.true_or, Bool.or_true, Bool.false_or, Bool.or_false, Bool.true_and, Bool.and_true, Bool.false_and, Bool.and_false, abNx]
  conv => whnf
  refine g1 fno ?_
  exact fA
theorem ZNO (n E nt nw t ta : Nat) (tail now : Int) (hs : Nat -> Int) (L : AL) (s : PS) (ht : t < n) (hta : ta < nt) (hnt : nt <= 64) (hn : n <= 64) (hE : E <= 8) (hnw : nw <= 4096) (hok : abOk n E L) :
  ZAC Tryz.prog 252 (ZEt n E nt nw tail hs L s) 5 [.l (.p 0 0 0 0), .l (.v (.int .i64 t)), .l (.v (.int .i64 ta)), .l (.v (.int .i64 now))] fun x h k =>
   x = didO (ZIs t (ZLw E nw tail t ta now L s)).1 /\ k = 5 /\ h = ZEt n E nt nw tail hs (ZIs t (ZLw E nw tail t ta now L s)).2.1 (ZIs t (ZLw E nw tail t ta now L s)).2.2 := by
 have hst := ZA4 n L.ss.st L.ss.dl true false t ht hn
 have hdl := ZFp n L.ss.st L.ss.dl true false t
 have hin : inW n (t : Int) = true := by simp [inW]; omega
 simp only [dlV, hin, pick, Int.toNat_natCast] at hdl
 have hrow := ZIr n E t ht hn hE
 refine sE Tryz.func252 ic252_eq [.ca 8 4] fun G hP hA => ?_
 unfold evF ic252 ZLw ZIs
 by_cases e1 : L.ss.st t = 1
 ·rw [e1] at hst
  have hlk := fun late => ZNM n E nt nw t ta tail hs late L s ht hta hnt hn hE hnw (hok t ht e1)
  simp only [e1, decide_true, pick]
  by_cases d0 : 0 <= L.ss.dl t
  ·have hlk := hlk (decide (L.ss.dl t <= now))
   simp only [ZLN, d0, decide_true, Bool.true_and]
   generalize abLk E nw tail t ta (decide (L.ss.dl t <= now)) L s = r at hlk ⊢
   have hen := ZAV n r.2.1.ss.st r.2.1.ss.dl true false t r.1.e ht hn
   cases eb : enB r.2.1.ss.st t r.1.e with
   | true =>
    rw [eb] at hen
    simp only [pick]
    conv => whnf
    refine g5 hst hdl hrow hlk hen ?_
    refine fQ ?_ ?_
    ·rfl
    ·exact ⟨ZAA, rfl, ZAA, ZAA, ⟨rfl, rfl, fun j hj => by simp only [Nat.zero_add, ZOk]; rw [ZPg]⟩, trivial⟩
   | false =>
    rw [eb] at hen
    simp only [pick]
    conv => whnf
    refine g5 hst hdl hrow hlk hen ?_
    exact fA
  ·have hlk := hlk false
   simp only [ZLN, d0, decide_false, Bool.false_and]
   generalize abLk E nw tail t ta false L s = r at hlk ⊢
   have hen := ZAV n r.2.1.ss.st r.2.1.ss.dl true false t r.1.e ht hn
   cases eb : enB r.2.1.ss.st t r.1.e with
   | true =>
    rw [eb] at hen
    simp only [pick]
    conv => whnf
    refine g5 hst hdl hrow hlk hen ?_
    refine fQ ?_ ?_
    ·rfl
    ·exact ⟨ZAA, rfl, ZAA, ZAA, ⟨rfl, rfl, fun j hj => by simp only [Nat.zero_add, ZOk]; rw [ZPg]⟩, trivial⟩
   | false =>
    rw [eb] at hen
    simp only [pick]
    conv => whnf
    refine g5 hst hdl hrow hlk hen ?_
    exact fA
 by_cases e3 : L.ss.st t = 3
 ·rw [e3] at hst
  have hul := ZNN n E nt nw t ta tail hs L s ht hta hnt hn hnw
  simp only [Int.reduceEq, e3, decide_true, decide_false, pick]
  generalize abUl nw tail t ta L s = r at hul ⊢
  have hen := ZAV n r.2.1.ss.st r.2.1.ss.dl true false t r.1 ht hn
  cases eb : enB r.2.1.ss.st t r.1 with
  | true =>
   rw [eb] at hen
   simp only [pick, evD, eb]
   conv => whnf
   refine g3 hst hul hen ?_
   refine fQ ?_ ?_
   ·rfl
   ·exact ⟨ZAA, rfl, ZAA, ZAA, ⟨rfl, rfl, fun j hj => by simp only [Nat.zero_add, ZOk]; rw [ZPg]⟩, trivial⟩
  | false =>
   rw [eb] at hen
   simp only [pick, evD, eb]
   conv => whnf
   refine g3 hst hul hen ?_
   exact fA
 ·have hen := ZAV n L.ss.st L.ss.dl true false t 0 ht hn
  have eb : enB L.ss.st t 0 = false := by simp [enB, ZDp, pick, e1, e3]
  rw [eb] at hen
  simp only [e1, e3, eb, decide_false, pick, evD]
  conv => whnf
  refine g2 hst hen ?_
  exact fA
theorem ZFe (n : Nat) (st dl : Nat -> Int) (tm pr : Bool) (t d : Int) (hn : n <= 64) : ZAC Tryz.prog 210 [(0, some (ZBZ n st dl tm pr))] 1 [.l (.p 0 0 0 0), .l (.v (.int .i64 t)), .l (.v (.int .i64 d))] fun x h k => x = sInt .i64 (lkE n st tm t d) /\ k = 1 /\ h = [(0, some (ZBZ n (lkSt n st tm t d) (lkDl n st dl tm t d) tm pr))] := by
 have hth := ZCe n st dl tm pr t
 refine sG (ZAZ (ZBS n st dl tm pr) 2 0 (by omega)) Tryz.func210 ic210_eq [.t 6] fun G hP hA => ?_
 unfold evF ic210 lkSt lkDl
 rcases ZAm n t with ⟨hb, i, hi, rfl⟩ | ⟨hb, ho⟩
 ·rw [hb] at hth
  by_cases h1 : d < -1
  ·have e : lkE n st tm i d = 1 := by simp [lkE, hb, h1, pick]
   simp only [e, show ¬ (1 : Int) = 0 by omega, decide_false, pick]
   conv => whnf
   refine g1 hth ?_
   (refine ZAB (H := (ZBS n st dl tm pr)) (np := 2) 0 0 (Nat.le_of_ble_eq_true rfl) ?_; conv => whnf); (refine zK ?_)
   exact fA
  by_cases h2 : 0 <= d
  ·cases tm with
   | false =>
    have e : lkE n st false i d = 1 := by simp [lkE, hb, h2, pick]
    simp only [e, show ¬ (1 : Int) = 0 by omega, decide_false, pick]
    conv => whnf
    refine g1 hth ?_
    (refine ZAB (H := (ZBS n st dl false pr)) (np := 2) 0 0 (Nat.le_of_ble_eq_true rfl) ?_; conv => whnf); (refine zK ?_)
    exact fA
   | true =>
    by_cases h3 : st i = 0
    ·have e : lkE n st true i d = 0 := by simp [lkE, hb, h1, h3, pick]
     simp only [e, decide_true, pick]
     conv => whnf
     refine g1 hth ?_
     (refine ZAB (H := (ZBS n (updF st i 1) (updF dl i d) true pr)) (np := 2) 0 0 (Nat.le_of_ble_eq_true rfl) ?_; conv => whnf); (refine ⟨⟨rfl, by omega, rfl, rfl, ?_, rfl⟩, ?_⟩)
     ·exact ⟨rfl, ⟨rfl, rfl, fun j hj => updS st dl i 1 d j⟩, trivial⟩
     conv => whnf
     exact fA
    ·have e : lkE n st true i d = 2 := by simp [lkE, hb, h1, h3, pick]
     simp only [e, show ¬ (2 : Int) = 0 by omega, decide_false, pick]
     conv => whnf
     refine g1 hth ?_
     (refine ZAB (H := (ZBS n st dl true pr)) (np := 2) 0 0 (Nat.le_of_ble_eq_true rfl) ?_; conv => whnf); (refine zK ?_)
     exact fA
  ·by_cases h3 : st i = 0
   ·have e : lkE n st tm i d = 0 := by simp [lkE, hb, h1, h2, h3, pick]
    simp only [e, decide_true, pick]
    conv => whnf
    refine g1 hth ?_
    (refine ZAB (H := (ZBS n (updF st i 1) (updF dl i d) tm pr)) (np := 2) 0 0 (Nat.le_of_ble_eq_true rfl) ?_; conv => whnf); (refine ⟨⟨rfl, by omega, rfl, rfl, ?_, rfl⟩, ?_⟩)
    ·exact ⟨rfl, ⟨rfl, rfl, fun j hj => updS st dl i 1 d j⟩, trivial⟩
    conv => whnf
    exact fA
   ·have e : lkE n st tm i d = 2 := by simp [lkE, hb, h1, h2, h3, pick]
    simp only [e, show ¬ (2 : Int) = 0 by omega, decide_false, pick]
    conv => whnf
    refine g1 hth ?_
    (refine ZAB (H := (ZBS n st dl tm pr)) (np := 2) 0 0 (Nat.le_of_ble_eq_true rfl) ?_; conv => whnf); (refine zK ?_)
    exact fA
 ·rw [hb] at hth
  have e : lkE n st tm t d = 1 := by simp [lkE, hb, pick]
  simp only [e, show ¬ (1 : Int) = 0 by omega, decide_false, pick]
  conv => whnf
  refine g1 hth ?_
  (refine ZAB (H := (ZBS n st dl tm pr)) (np := 2) 0 0 (Nat.le_of_ble_eq_true rfl) ?_; conv => whnf); (refine zK ?_)
  exact fA
theorem ZEu (n : Nat) (st dl : Nat -> Int) (tm pr : Bool) (t : Int) (hn : n <= 64) : ZAC Tryz.prog 217 (ZBS n st dl tm pr) 2 [.l (.p 0 0 0 0), .l (.v (.int .i64 t))] fun x h k => x = sInt .i64 (hoE n st t) /\ k = 2 /\ h = ZBS n st dl tm pr := by
 have hth := ZCe n st dl tm pr t
 refine sE Tryz.func217 ic217_eq [.t 4] fun G hP hA => ?_
 unfold evF ic217
 rcases ZAm n t with ⟨hb, i, hi, rfl⟩ | ⟨hb, ho⟩
 ·rw [hb] at hth
  by_cases h0 : st i = 0
  ·have e : hoE n st i = 3 := by simp [hoE, hb, h0, pick]
   rw [e]
   conv => whnf
   refine g1 hth ?_
   exact fA
  by_cases h2 : st i = 2
  ·have e : hoE n st i = 0 := by simp [hoE, hb, h2, pick]
   rw [e]
   conv => whnf
   refine g1 hth ?_
   exact fA
  ·have e : hoE n st i = 2 := by simp [hoE, hb, h0, h2, pick]
   rw [e]
   conv => whnf
   refine g1 hth ?_
   exact fA
 ·rw [hb] at hth
  have e : hoE n st t = 1 := by simp [hoE, hb, pick]
  rw [e]
  conv => whnf
  refine g1 hth ?_
  exact fA
theorem ZQp (f g : Nat -> Int) (i : Nat) (u : Int) (j : Nat) : mrgL (j = i) (ZAG (ZFP f g j) 0 [.int .i64 u]) (ZFP f g j) = ZFP (updF f i u) g j := by
 simp only [ZFP, updF, ZAG, setL, mrgL, ZBB]
 by_cases h : j = i <;> simp [h]
theorem ZEJ (n : Nat) (st dl : Nat -> Int) (tm pr : Bool) (t : Int) (hn : n <= 64) : ZAC Tryz.prog 214 [(0, some (ZBZ n st dl tm pr))] 1 [.l (.p 0 0 0 0), .l (.v (.int .i64 t))] fun x h k => x = sInt .i64 (hoE n st t) /\ k = 1 /\ h = [(0, some (ZBZ n (ulSt n st t 3) dl tm pr))] := by
 have hho := ZEu n st dl tm pr t hn
 refine sG (ZAZ (ZBS n st dl tm pr) 2 0 (by omega)) Tryz.func214 ic214_eq [.t 4] fun G hP hA => ?_
 unfold evF ic214 ulSt
 by_cases e : hoE n st t = 0
 ·obtain ⟨hb, hs⟩ := ZQl e
  obtain ⟨_, i, hi, rfl⟩ | ⟨hb', _⟩ := ZAm n t
  ·simp only [e, decide_true, pick, Int.toNat_natCast]
   rw [e] at hho
   conv => whnf
   refine g1 hho ?_
   (refine ZAB (H := (ZBS n (updF st i 3) dl tm pr)) (np := 2) 0 0 (Nat.le_of_ble_eq_true rfl) ?_; conv => whnf); (refine ⟨⟨rfl, by omega, rfl, rfl, ?_, rfl⟩, ?_⟩)
   ·exact ⟨rfl, ⟨rfl, rfl, fun j hj => ZQp st dl i 3 j⟩, trivial⟩
   conv => whnf
   exact fA
  ·rw [hb] at hb'; cases hb'
 ·simp only [e, decide_false, pick]
  conv => whnf
  refine g1 hho ?_
  (refine ZAB (H := (ZBS n st dl tm pr)) (np := 2) 0 0 (Nat.le_of_ble_eq_true rfl) ?_; conv => whnf); (refine zK ?_)
  exact fA
def prE (n : Nat) (st : Nat -> Int) (pr : Bool) (t : Int) : Int := pick pr (hoE n st t) 1
def prSt (n : Nat) (st : Nat -> Int) (pr : Bool) (t : Int) : Nat -> Int := pick pr (ulSt n st t 4) st
theorem ZHk (n : Nat) (st dl : Nat -> Int) (tm pr : Bool) (t : Int) (hn : n <= 64) : ZAC Tryz.prog 211 [(0, some (ZBZ n st dl tm pr))] 1 [.l (.p 0 0 0 0), .l (.v (.int .i64 t))] fun x h k => x = sInt .i64 (prE n st pr t) /\ k = 1 /\ h = [(0, some (ZBZ n (prSt n st pr t) dl tm pr))] := by
 have hho := ZEu n st dl tm pr t hn
 refine sG (ZAZ (ZBS n st dl tm pr) 2 0 (by omega)) Tryz.func211 ic211_eq [.t 4] fun G hP hA => ?_
 unfold evF ic211 prE prSt ulSt
 cases pr with
 | false =>
  simp only [pick]
  conv => whnf
  refine g1 hho ?_
  (refine ZAB (H := (ZBS n st dl tm false)) (np := 2) 0 0 (Nat.le_of_ble_eq_true rfl) ?_; conv => whnf); (refine zK ?_)
  exact fA
 | true =>
  by_cases e : hoE n st t = 0
  ·obtain ⟨hb, hs⟩ := ZQl e
   obtain ⟨_, i, hi, rfl⟩ | ⟨hb', _⟩ := ZAm n t
   ·simp only [e, decide_true, pick, Int.toNat_natCast]
    rw [e] at hho
    conv => whnf
    refine g1 hho ?_
    (refine ZAB (H := (ZBS n (updF st i 4) dl tm true)) (np := 2) 0 0 (Nat.le_of_ble_eq_true rfl) ?_; conv => whnf); (refine ⟨⟨rfl, by omega, rfl, rfl, ?_, rfl⟩, ?_⟩)
    ·exact ⟨rfl, ⟨rfl, rfl, fun j hj => ZQp st dl i 4 j⟩, trivial⟩
    conv => whnf
    exact fA
   ·rw [hb] at hb'; cases hb'
  ·simp only [e, decide_false, pick]
   conv => whnf
   refine g1 hho ?_
   (refine ZAB (H := (ZBS n st dl tm true)) (np := 2) 0 0 (Nat.le_of_ble_eq_true rfl) ?_; conv => whnf); (refine zK ?_)
   exact fA
theorem ZAX {P : Program} {G : Ctx} {t : TypeId} {name : String} {fid : FuncId} {k c k2 : Nat} {cs : List LV} {xs : List AV} {h : Heap} {n : Nat} {K : SV -> Heap -> Nat -> Prop} (hP : G.P = P)
  (hm : ∀ (a : Addr) (args : Array Value) (w : World) (v : Value), w.cell? (a.add c) = some v -> (callMethod (.iface t (.pointer (some a))) name args).run P w = .ok (.enter fid (#[v] ++ args)) w)
  (hk : hget h k = some (.st cs)) (hc : nth cs c = some (.p k2 0 0 0)) (hcall : CallP G fid (.l (.p k2 0 0 0) :: xs) h n K) : InvP G (.l (.i t k)) name xs h n K := by
 subst hP
 rw [ZCE] at hcall
 rw [ZDi]
 intro G' hG' ρ φ w g hr hxs
 obtain ⟨e1, e2, e3, ⟨ty, e4⟩, e5⟩ := g.hm.at_ k _ hk
 rw [ZAo] at hc
 have hcell : w.cell? ((adr (ρ k) 0).add c) = some ((LV.p k2 0 0 0).at ρ) := by
  by_cases h0 : c = 0
  ·subst h0
   simp [World.cell?, adr, Addr.add, e2, e4, hc]
  ·simp [World.cell?, adr, Addr.add, h0, e2, e4, hc]
 refine ⟨fid, _, hm _ _ _ _ hcell, ?_⟩
 have := hcall.2 G' hG' ρ φ w g (fun x hx => by
  rcases List.mem_cons.1 hx with rfl | hx
  ·exact e5 _ (List.mem_of_getElem? hc)
  ·exact hxs x hx)
 simpa [AV.at] using this
theorem ZBd (n : Nat) (st dl : Nat -> Int) (a b : Bool) : ZAC Tryz.prog 209 [(0, some (ZBZ n st dl a b))] 1 [.l (.p 0 0 0 0)] fun x h k => x = sInt .i64 (n : Int) /\ k = 1 /\ h = [(0, some (ZBZ n st dl a b))] := by
 refine sG (ZAZ (ZBS n st dl a b) 2 0 (by omega)) Tryz.func209 ic209_eq [.t 2] fun G hP hA => ?_
 unfold evF ic209
 conv => whnf
 (refine ZAB (H := (ZBS n st dl a b)) (np := 2) 0 0 (Nat.le_of_ble_eq_true rfl) ?_; conv => whnf); (refine zK ?_)
 exact fA
def IvS (t : TypeId) (nm : String) (fid : FuncId) : Prop := ∀ (a : Addr) (args : Array Value) (w : World) (v : Value), w.cell? (a.add 0) = some v -> (callMethod (.iface t (.pointer (some a))) nm args).run Tryz.prog w = .ok (.enter fid (#[v] ++ args)) w
theorem ZA0 {t : TypeId} {nm : String} {fid : FuncId} (e : ∀ (a : Addr) (args : Array Value) (w : World), (callMethod (.iface t (.pointer (some a))) nm args).run Tryz.prog w = (match w.cell? (a.add 0) with
   | some v => .ok (.enter fid (#[v] ++ args)) w
   | none => match w.farLoad Tryz.prog (a.add 0) false with
    | .ok (v, _) => .ok (.enter fid (#[v] ++ args)) w
    | .error h => .halt h w)) : IvS t nm fid := fun a args w v h => by rw [e, h]
theorem ZKn : IvS 221 "Len" 209 := ZA0 fun a args w => by kernel_rfl
theorem ZJZ : IvS 224 "Len" 209 := ZA0 fun a args w => by kernel_rfl
theorem ZML : IvS 227 "Len" 209 := ZA0 fun a args w => by kernel_rfl
theorem ZMM : IvS 230 "Len" 209 := ZA0 fun a args w => by kernel_rfl
theorem ZJa : IvS 233 "Len" 209 := ZA0 fun a args w => by kernel_rfl
theorem ZKo : IvS 236 "Len" 209 := ZA0 fun a args w => by kernel_rfl
theorem ZIF : IvS 239 "Len" 209 := ZA0 fun a args w => by kernel_rfl
inductive K1 where
 | fl (nx ow : Int) (L : FL)
 | sl (tail : Int) (m : Nat) (L : SL)
 | cl (tail : Int) (L : CL)
 | mc (tail : Int) (L : ML)
 | ab (E : Nat) (tail : Int) (L : AL)
 | hi (tail : Int) (L : HL)
def K1.R (n : Nat) : K1 -> List Go.Sx.Loc -> Go.Sx.Loc -> List Nat -> World -> Prop
 | .fl nx ow L => ZAl (ZBz n nx ow L.ss.st L.ss.dl L.nu L.dr) 5
 | .sl tail m L => ZAl (ZBP n tail m L.ss.st L.ss.dl L.nu L.sp) 4
 | .cl tail L => ZAl (ZDS n tail L.ss.st L.ss.dl L.no L.ah L.sp) 4
 | .mc tail L => ZAl (ZDT n tail L.ss.st L.ss.dl L.sp L.ot) 4
 | .ab E tail L => ZAl (ZBs n E tail L.ss.st L.ss.dl L.sp L.tr L.no L.ot) 5
 | .hi tail L => ZAl (ZB8 n tail L.ss.st L.ss.dl L.cl L.no L.ah L.la L.wo L.sp) 4
def K1.T : K1 -> Nat
 | .fl .. => 221
 | .sl .. => 224
 | .cl .. => 227
 | .mc .. => 230
 | .ab .. => 233
 | .hi .. => 236
def K1.F : K1 -> Nat
 | .fl .. => 213
 | .sl .. => 231
 | .cl .. => 235
 | .mc .. => 243
 | .ab .. => 252
 | .hi .. => 260
def K1.ss : K1 -> SS
 | .fl nx ow L => L.ss
 | .sl tail m L => L.ss
 | .cl tail L => L.ss
 | .mc tail L => L.ss
 | .ab E tail L => L.ss
 | .hi tail L => L.ss
def K1.tm : K1 -> Bool
 | .ab .. => true
 | _ => false
def K1.pr : K1 -> Bool
 | .fl .. => true
 | .sl .. => false
 | .cl .. => true
 | .mc .. => true
 | .ab .. => false
 | .hi .. => false
def K1.set (st dl : Nat -> Int) : K1 -> K1
 | .fl nx ow L => .fl nx ow ⟨⟨st, dl⟩, L.nu, L.dr⟩
 | .sl tail m L => .sl tail m ⟨⟨st, dl⟩, L.nu, L.sp⟩
 | .cl tail L => .cl tail ⟨⟨st, dl⟩, L.no, L.ah, L.sp⟩
 | .mc tail L => .mc tail ⟨⟨st, dl⟩, L.sp, L.ot⟩
 | .ab E tail L => .ab E tail ⟨⟨st, dl⟩, L.sp, L.tr, L.no, L.ot⟩
 | .hi tail L => .hi tail ⟨⟨st, dl⟩, L.cl, L.no, L.ah, L.la, L.wo, L.sp⟩
def K1.ok (n : Nat) : K1 -> Prop
 | .fl nx ow L => True
 | .sl tail m L => ZCa m /\ (0 <= tail /\ tail <= 4096)
 | .cl tail L => 0 <= tail /\ tail <= 4096
 | .mc tail L => True
 | .ab E tail L => E <= 8 /\ abOk n E L
 | .hi tail L => 0 <= tail /\ tail <= 4096
def K1.step (n nw : Nat) (t now : Int) (ta : Nat) (s : PS) : K1 -> Dd × K1 × PS
 | .fl nx ow L => ((ZCo n nw nx ow t ta L s).1, .fl nx ow (ZCo n nw nx ow t ta L s).2.1, (ZCo n nw nx ow t ta L s).2.2)
 | .sl tail m L => ((ZCp n nw tail m t ta L s).1, .sl tail m (ZCp n nw tail m t ta L s).2.1, (ZCp n nw tail m t ta L s).2.2)
 | .cl tail L => ((ZCZ n nw tail t ta L s).1, .cl tail (ZCZ n nw tail t ta L s).2.1, (ZCZ n nw tail t ta L s).2.2)
 | .mc tail L => ((ZCr n nw tail t ta L s).1, .mc tail (ZCr n nw tail t ta L s).2.1, (ZCr n nw tail t ta L s).2.2)
 | .ab E tail L => ((ZBy E n nw tail t now ta L s).1, .ab E tail (ZBy E n nw tail t now ta L s).2.1, (ZBy E n nw tail t now ta L s).2.2)
 | .hi tail L => ((ZB7 n nw tail t ta L s).1, .hi tail (ZB7 n nw tail t ta L s).2.1, (ZB7 n nw tail t ta L s).2.2)
theorem K1.stable (n : Nat) (S : K1) (ls : List Go.Sx.Loc) : ZCc (S.R n ls) := by cases S <;> exact ZBO _ _ _
theorem ZLx (n nt nw ta : Nat) (nx ow : Int)  (t now : Int) (hs : Nat -> Int) (L : FL) (s : PS) (hn : n <= 64) (ho : inW n t = false) :
  ZAC Tryz.prog 213 (ZIn n nt nw nx ow hs L s) 5 [.l (.p 0 0 0 0), .l (.v (.int .i64 t)), .l (.v (.int .i64 ta)), .l (.v (.int .i64 now))] fun x h k => x = didO (evD 0) /\ k = 5 /\ h = ZIn n nt nw nx ow hs L s := by
 have hst := ZAs n L.ss.st L.ss.dl false true t
 simp only [stV, ho, pick] at hst
 have hen := ZCJ n L.ss.st L.ss.dl false true t ho
 refine sE Tryz.func213 ic213_eq [.ca 8 4] fun G hP hA => ?_
 unfold evF ic213
 conv => whnf
 refine g2 hst hen ?_
 exact fA
theorem ZNP (n nt nw ta : Nat) (nx ow : Int)  (t now : Int) (hs : Nat -> Int) (L : FL) (s : PS) (hta : ta < nt) (hnt : nt <= 64) (hn : n <= 64) (hnw : nw <= 4096) :
  ZAC Tryz.prog 213 [(0, some (.ob [1] (ZAl (ZBz n nx ow L.ss.st L.ss.dl L.nu L.dr) 5))), (1, some (ZBK nt nw hs s))] 2 [.l (.p 0 0 0 0), .l (.v (.int .i64 t)), .l (.v (.int .i64 ta)), .l (.v (.int .i64 now))] fun x h k =>
   x = didO (ZCo n nw nx ow t ta L s).1 /\ k = 2 /\ h = [(0, some (.ob [1] (ZAl (ZBz n nx ow (ZCo n nw nx ow t ta L s).2.1.ss.st (ZCo n nw nx ow t ta L s).2.1.ss.dl (ZCo n nw nx ow t ta L s).2.1.nu (ZCo n nw nx ow t ta L s).2.1.dr) 5))), (1, some (ZBK nt nw hs (ZCo n nw nx ow t ta L s).2.2))] := by
 have key : ZAC Tryz.prog 213 (ZIn n nt nw nx ow hs L s) 5 [.l (.p 0 0 0 0), .l (.v (.int .i64 t)), .l (.v (.int .i64 ta)), .l (.v (.int .i64 now))] fun x h k =>
   x = didO (ZCo n nw nx ow t ta L s).1 /\ k = 5 /\ h = ZIn n nt nw nx ow hs (ZCo n nw nx ow t ta L s).2.1 (ZCo n nw nx ow t ta L s).2.2 := by
  rcases ZAm n t with ⟨hb, i, hi, rfl⟩ | ⟨hb, ho⟩
  ·unfold ZCo
   simp only [hb, Int.toNat_natCast]
   exact ZMu n nt nw i ta nx ow now hs L s hi hta hnt hn hnw
  ·unfold ZCo
   simp only [hb]
   exact ZLx n nt nw ta nx ow t now hs L s hn hb
 generalize ZCo n nw nx ow t ta L s = r at key ⊢
 refine ZAC.refin (ZAC.ghost (ZAY 0 (ks := [1]) (H := ZBz n nx ow L.ss.st L.ss.dl L.nu L.dr) (np := 5) rfl (by decide) rfl rfl rfl) (ZAC.pre key ?_)) ?_
 ·exact ZAA
 ·rintro x h k ⟨rfl, rfl, rfl⟩ _
  (refine ZAB (H := (ZBz n nx ow r.2.1.ss.st r.2.1.ss.dl r.2.1.nu r.2.1.dr)) (np := 5) 0 1 (Nat.le_of_ble_eq_true rfl) ?_; conv => whnf); (refine zK ?_)
  exact fA
theorem ZLy (n nt nw ta : Nat) (tail : Int) (m : Nat)  (t now : Int) (hs : Nat -> Int) (L : SL) (s : PS) (hn : n <= 64) (ho : inW n t = false) :
  ZAC Tryz.prog 231 (ZEI n nt nw tail m hs L s) 4 [.l (.p 0 0 0 0), .l (.v (.int .i64 t)), .l (.v (.int .i64 ta)), .l (.v (.int .i64 now))] fun x h k => x = didO (evD 0) /\ k = 4 /\ h = ZEI n nt nw tail m hs L s := by
 have hst := ZAs n L.ss.st L.ss.dl false false t
 simp only [stV, ho, pick] at hst
 have hen := ZCJ n L.ss.st L.ss.dl false false t ho
 refine sE Tryz.func231 ic231_eq [.ca 8 4] fun G hP hA => ?_
 unfold evF ic231
 conv => whnf
 refine g2 hst hen ?_
 exact fA
theorem ZNQ (n nt nw ta : Nat) (tail : Int) (m : Nat)  (t now : Int) (hs : Nat -> Int) (L : SL) (s : PS) (hta : ta < nt) (hnt : nt <= 64) (hn : n <= 64) (hnw : nw <= 4096) (hok : ZCa m /\ (0 <= tail /\ tail <= 4096)) :
  ZAC Tryz.prog 231 [(0, some (.ob [1] (ZAl (ZBP n tail m L.ss.st L.ss.dl L.nu L.sp) 4))), (1, some (ZBK nt nw hs s))] 2 [.l (.p 0 0 0 0), .l (.v (.int .i64 t)), .l (.v (.int .i64 ta)), .l (.v (.int .i64 now))] fun x h k =>
   x = didO (ZCp n nw tail m t ta L s).1 /\ k = 2 /\ h = [(0, some (.ob [1] (ZAl (ZBP n tail m (ZCp n nw tail m t ta L s).2.1.ss.st (ZCp n nw tail m t ta L s).2.1.ss.dl (ZCp n nw tail m t ta L s).2.1.nu (ZCp n nw tail m t ta L s).2.1.sp) 4))), (1, some (ZBK nt nw hs (ZCp n nw tail m t ta L s).2.2))] := by
 have key : ZAC Tryz.prog 231 (ZEI n nt nw tail m hs L s) 4 [.l (.p 0 0 0 0), .l (.v (.int .i64 t)), .l (.v (.int .i64 ta)), .l (.v (.int .i64 now))] fun x h k =>
   x = didO (ZCp n nw tail m t ta L s).1 /\ k = 4 /\ h = ZEI n nt nw tail m hs (ZCp n nw tail m t ta L s).2.1 (ZCp n nw tail m t ta L s).2.2 := by
  rcases ZAm n t with ⟨hb, i, hi, rfl⟩ | ⟨hb, ho⟩
  ·unfold ZCp
   simp only [hb, Int.toNat_natCast]
   exact ZMy n nt nw m i ta tail now hs L s hi hta hnt hn hnw hok.1 hok.2
  ·unfold ZCp
   simp only [hb]
   exact ZLy n nt nw ta tail m t now hs L s hn hb
 generalize ZCp n nw tail m t ta L s = r at key ⊢
 refine ZAC.refin (ZAC.ghost (ZAY 0 (ks := [1]) (H := ZBP n tail m L.ss.st L.ss.dl L.nu L.sp) (np := 4) rfl (by decide) rfl rfl rfl) (ZAC.pre key ?_)) ?_
 ·exact ZAA
 ·rintro x h k ⟨rfl, rfl, rfl⟩ _
  (refine ZAB (H := (ZBP n tail m r.2.1.ss.st r.2.1.ss.dl r.2.1.nu r.2.1.sp)) (np := 4) 0 1 (Nat.le_of_ble_eq_true rfl) ?_; conv => whnf); (refine zK ?_)
  exact fA
theorem ZLz (n nt nw ta : Nat) (tail : Int)  (t now : Int) (hs : Nat -> Int) (L : CL) (s : PS) (hn : n <= 64) (ho : inW n t = false) :
  ZAC Tryz.prog 235 (clhG n nt nw tail hs L s) 4 [.l (.p 0 0 0 0), .l (.v (.int .i64 t)), .l (.v (.int .i64 ta)), .l (.v (.int .i64 now))] fun x h k => x = didO (evD 0) /\ k = 4 /\ h = clhG n nt nw tail hs L s := by
 have hst := ZAs n L.ss.st L.ss.dl false true t
 simp only [stV, ho, pick] at hst
 have hen := ZCJ n L.ss.st L.ss.dl false true t ho
 refine sE Tryz.func235 ic235_eq [.ca 8 4] fun G hP hA => ?_
 unfold evF ic235
 conv => whnf
 refine g2 hst hen ?_
 exact fA
theorem ZNR (n nt nw ta : Nat) (tail : Int)  (t now : Int) (hs : Nat -> Int) (L : CL) (s : PS) (hta : ta < nt) (hnt : nt <= 64) (hn : n <= 64) (hnw : nw <= 4096) (hok : 0 <= tail /\ tail <= 4096) :
  ZAC Tryz.prog 235 [(0, some (.ob [1] (ZAl (ZDS n tail L.ss.st L.ss.dl L.no L.ah L.sp) 4))), (1, some (ZBK nt nw hs s))] 2 [.l (.p 0 0 0 0), .l (.v (.int .i64 t)), .l (.v (.int .i64 ta)), .l (.v (.int .i64 now))] fun x h k =>
   x = didO (ZCZ n nw tail t ta L s).1 /\ k = 2 /\ h = [(0, some (.ob [1] (ZAl (ZDS n tail (ZCZ n nw tail t ta L s).2.1.ss.st (ZCZ n nw tail t ta L s).2.1.ss.dl (ZCZ n nw tail t ta L s).2.1.no (ZCZ n nw tail t ta L s).2.1.ah (ZCZ n nw tail t ta L s).2.1.sp) 4))), (1, some (ZBK nt nw hs (ZCZ n nw tail t ta L s).2.2))] := by
 have key : ZAC Tryz.prog 235 (clhG n nt nw tail hs L s) 4 [.l (.p 0 0 0 0), .l (.v (.int .i64 t)), .l (.v (.int .i64 ta)), .l (.v (.int .i64 now))] fun x h k =>
   x = didO (ZCZ n nw tail t ta L s).1 /\ k = 4 /\ h = clhG n nt nw tail hs (ZCZ n nw tail t ta L s).2.1 (ZCZ n nw tail t ta L s).2.2 := by
  rcases ZAm n t with ⟨hb, i, hi, rfl⟩ | ⟨hb, ho⟩
  ·unfold ZCZ
   simp only [hb, Int.toNat_natCast]
   exact ZM2 n nt nw i ta tail now hs L s hi hta hnt hn hnw hok
  ·unfold ZCZ
   simp only [hb]
   exact ZLz n nt nw ta tail t now hs L s hn hb
 generalize ZCZ n nw tail t ta L s = r at key ⊢
 refine ZAC.refin (ZAC.ghost (ZAY 0 (ks := [1]) (H := ZDS n tail L.ss.st L.ss.dl L.no L.ah L.sp) (np := 4) rfl (by decide) rfl rfl rfl) (ZAC.pre key ?_)) ?_
 ·exact ZAA
 ·rintro x h k ⟨rfl, rfl, rfl⟩ _
  (refine ZAB (H := (ZDS n tail r.2.1.ss.st r.2.1.ss.dl r.2.1.no r.2.1.ah r.2.1.sp)) (np := 4) 0 1 (Nat.le_of_ble_eq_true rfl) ?_; conv => whnf); (refine zK ?_)
  exact fA
theorem ZL0 (n nt nw ta : Nat) (tail : Int)  (t now : Int) (hs : Nat -> Int) (L : ML) (s : PS) (hn : n <= 64) (ho : inW n t = false) :
  ZAC Tryz.prog 243 (mcsG n nt nw tail hs L s) 4 [.l (.p 0 0 0 0), .l (.v (.int .i64 t)), .l (.v (.int .i64 ta)), .l (.v (.int .i64 now))] fun x h k => x = didO (evD 0) /\ k = 4 /\ h = mcsG n nt nw tail hs L s := by
 have hst := ZAs n L.ss.st L.ss.dl false true t
 simp only [stV, ho, pick] at hst
 have hen := ZCJ n L.ss.st L.ss.dl false true t ho
 refine sE Tryz.func243 ic243_eq [.ca 8 4] fun G hP hA => ?_
 unfold evF ic243
 conv => whnf
 refine g2 hst hen ?_
 exact fA
theorem ZNS (n nt nw ta : Nat) (tail : Int)  (t now : Int) (hs : Nat -> Int) (L : ML) (s : PS) (hta : ta < nt) (hnt : nt <= 64) (hn : n <= 64) (hnw : nw <= 4096) :
  ZAC Tryz.prog 243 [(0, some (.ob [1] (ZAl (ZDT n tail L.ss.st L.ss.dl L.sp L.ot) 4))), (1, some (ZBK nt nw hs s))] 2 [.l (.p 0 0 0 0), .l (.v (.int .i64 t)), .l (.v (.int .i64 ta)), .l (.v (.int .i64 now))] fun x h k =>
   x = didO (ZCr n nw tail t ta L s).1 /\ k = 2 /\ h = [(0, some (.ob [1] (ZAl (ZDT n tail (ZCr n nw tail t ta L s).2.1.ss.st (ZCr n nw tail t ta L s).2.1.ss.dl (ZCr n nw tail t ta L s).2.1.sp (ZCr n nw tail t ta L s).2.1.ot) 4))), (1, some (ZBK nt nw hs (ZCr n nw tail t ta L s).2.2))] := by
 have key : ZAC Tryz.prog 243 (mcsG n nt nw tail hs L s) 4 [.l (.p 0 0 0 0), .l (.v (.int .i64 t)), .l (.v (.int .i64 ta)), .l (.v (.int .i64 now))] fun x h k =>
   x = didO (ZCr n nw tail t ta L s).1 /\ k = 4 /\ h = mcsG n nt nw tail hs (ZCr n nw tail t ta L s).2.1 (ZCr n nw tail t ta L s).2.2 := by
  rcases ZAm n t with ⟨hb, i, hi, rfl⟩ | ⟨hb, ho⟩
  ·unfold ZCr
   simp only [hb, Int.toNat_natCast]
   exact ZM7 n nt nw i ta tail now hs L s hi hta hnt hn hnw
  ·unfold ZCr
   simp only [hb]
   exact ZL0 n nt nw ta tail t now hs L s hn hb
 generalize ZCr n nw tail t ta L s = r at key ⊢
 refine ZAC.refin (ZAC.ghost (ZAY 0 (ks := [1]) (H := ZDT n tail L.ss.st L.ss.dl L.sp L.ot) (np := 4) rfl (by decide) rfl rfl rfl) (ZAC.pre key ?_)) ?_
 ·exact ZAA
 ·rintro x h k ⟨rfl, rfl, rfl⟩ _
  (refine ZAB (H := (ZDT n tail r.2.1.ss.st r.2.1.ss.dl r.2.1.sp r.2.1.ot)) (np := 4) 0 1 (Nat.le_of_ble_eq_true rfl) ?_; conv => whnf); (refine zK ?_)
  exact fA
theorem ZL1 (n nt nw ta : Nat) (E : Nat) (tail : Int)  (t now : Int) (hs : Nat -> Int) (L : AL) (s : PS) (hn : n <= 64) (ho : inW n t = false) :
  ZAC Tryz.prog 252 (ZEt n E nt nw tail hs L s) 5 [.l (.p 0 0 0 0), .l (.v (.int .i64 t)), .l (.v (.int .i64 ta)), .l (.v (.int .i64 now))] fun x h k => x = didO (evD 0) /\ k = 5 /\ h = ZEt n E nt nw tail hs L s := by
 have hst := ZAs n L.ss.st L.ss.dl true false t
 simp only [stV, ho, pick] at hst
 have hen := ZCJ n L.ss.st L.ss.dl true false t ho
 refine sE Tryz.func252 ic252_eq [.ca 8 4] fun G hP hA => ?_
 unfold evF ic252
 conv => whnf
 refine g2 hst hen ?_
 exact fA
theorem ZNT (n nt nw ta : Nat) (E : Nat) (tail : Int)  (t now : Int) (hs : Nat -> Int) (L : AL) (s : PS) (hta : ta < nt) (hnt : nt <= 64) (hn : n <= 64) (hnw : nw <= 4096) (hok : E <= 8 /\ abOk n E L) :
  ZAC Tryz.prog 252 [(0, some (.ob [1] (ZAl (ZBs n E tail L.ss.st L.ss.dl L.sp L.tr L.no L.ot) 5))), (1, some (ZBK nt nw hs s))] 2 [.l (.p 0 0 0 0), .l (.v (.int .i64 t)), .l (.v (.int .i64 ta)), .l (.v (.int .i64 now))] fun x h k =>
   x = didO (ZBy E n nw tail t now ta L s).1 /\ k = 2 /\ h = [(0, some (.ob [1] (ZAl (ZBs n E tail (ZBy E n nw tail t now ta L s).2.1.ss.st (ZBy E n nw tail t now ta L s).2.1.ss.dl (ZBy E n nw tail t now ta L s).2.1.sp (ZBy E n nw tail t now ta L s).2.1.tr (ZBy E n nw tail t now ta L s).2.1.no (ZBy E n nw tail t now ta L s).2.1.ot) 5))), (1, some (ZBK nt nw hs (ZBy E n nw tail t now ta L s).2.2))] := by
 have key : ZAC Tryz.prog 252 (ZEt n E nt nw tail hs L s) 5 [.l (.p 0 0 0 0), .l (.v (.int .i64 t)), .l (.v (.int .i64 ta)), .l (.v (.int .i64 now))] fun x h k =>
   x = didO (ZBy E n nw tail t now ta L s).1 /\ k = 5 /\ h = ZEt n E nt nw tail hs (ZBy E n nw tail t now ta L s).2.1 (ZBy E n nw tail t now ta L s).2.2 := by
  rcases ZAm n t with ⟨hb, i, hi, rfl⟩ | ⟨hb, ho⟩
  ·unfold ZBy
   simp only [hb, Int.toNat_natCast]
   exact ZNO n E nt nw i ta tail now hs L s hi hta hnt hn hok.1 hnw hok.2
  ·unfold ZBy
   simp only [hb]
   exact ZL1 n nt nw ta E tail t now hs L s hn hb
 generalize ZBy E n nw tail t now ta L s = r at key ⊢
 refine ZAC.refin (ZAC.ghost (ZAY 0 (ks := [1]) (H := ZBs n E tail L.ss.st L.ss.dl L.sp L.tr L.no L.ot) (np := 5) rfl (by decide) rfl rfl rfl) (ZAC.pre key ?_)) ?_
 ·exact ZAA
 ·rintro x h k ⟨rfl, rfl, rfl⟩ _
  (refine ZAB (H := (ZBs n E tail r.2.1.ss.st r.2.1.ss.dl r.2.1.sp r.2.1.tr r.2.1.no r.2.1.ot)) (np := 5) 0 1 (Nat.le_of_ble_eq_true rfl) ?_; conv => whnf); (refine zK ?_)
  exact fA
theorem ZL2 (n nt nw ta : Nat) (tail : Int)  (t now : Int) (hs : Nat -> Int) (L : HL) (s : PS) (hn : n <= 64) (ho : inW n t = false) :
  ZAC Tryz.prog 260 (ZGy n nt nw tail hs L s) 4 [.l (.p 0 0 0 0), .l (.v (.int .i64 t)), .l (.v (.int .i64 ta)), .l (.v (.int .i64 now))] fun x h k => x = didO (evD 0) /\ k = 4 /\ h = ZGy n nt nw tail hs L s := by
 have hst := ZAs n L.ss.st L.ss.dl false false t
 simp only [stV, ho, pick] at hst
 have hen := ZCJ n L.ss.st L.ss.dl false false t ho
 refine sE Tryz.func260 ic260_eq [.ca 8 4] fun G hP hA => ?_
 unfold evF ic260
 conv => whnf
 refine g2 hst hen ?_
 exact fA
theorem ZNU (n nt nw ta : Nat) (tail : Int)  (t now : Int) (hs : Nat -> Int) (L : HL) (s : PS) (hta : ta < nt) (hnt : nt <= 64) (hn : n <= 64) (hnw : nw <= 4096) (hok : 0 <= tail /\ tail <= 4096) :
  ZAC Tryz.prog 260 [(0, some (.ob [1] (ZAl (ZB8 n tail L.ss.st L.ss.dl L.cl L.no L.ah L.la L.wo L.sp) 4))), (1, some (ZBK nt nw hs s))] 2 [.l (.p 0 0 0 0), .l (.v (.int .i64 t)), .l (.v (.int .i64 ta)), .l (.v (.int .i64 now))] fun x h k =>
   x = didO (ZB7 n nw tail t ta L s).1 /\ k = 2 /\ h = [(0, some (.ob [1] (ZAl (ZB8 n tail (ZB7 n nw tail t ta L s).2.1.ss.st (ZB7 n nw tail t ta L s).2.1.ss.dl (ZB7 n nw tail t ta L s).2.1.cl (ZB7 n nw tail t ta L s).2.1.no (ZB7 n nw tail t ta L s).2.1.ah (ZB7 n nw tail t ta L s).2.1.la (ZB7 n nw tail t ta L s).2.1.wo (ZB7 n nw tail t ta L s).2.1.sp) 4))), (1, some (ZBK nt nw hs (ZB7 n nw tail t ta L s).2.2))] := by
 have key : ZAC Tryz.prog 260 (ZGy n nt nw tail hs L s) 4 [.l (.p 0 0 0 0), .l (.v (.int .i64 t)), .l (.v (.int .i64 ta)), .l (.v (.int .i64 now))] fun x h k =>
   x = didO (ZB7 n nw tail t ta L s).1 /\ k = 4 /\ h = ZGy n nt nw tail hs (ZB7 n nw tail t ta L s).2.1 (ZB7 n nw tail t ta L s).2.2 := by
  rcases ZAm n t with ⟨hb, i, hi, rfl⟩ | ⟨hb, ho⟩
  ·unfold ZB7
   simp only [hb, Int.toNat_natCast]
   exact ZNH n nt nw i ta tail now hs L s hi hta hnt hn hnw hok
  ·unfold ZB7
   simp only [hb]
   exact ZL2 n nt nw ta tail t now hs L s hn hb
 generalize ZB7 n nw tail t ta L s = r at key ⊢
 refine ZAC.refin (ZAC.ghost (ZAY 0 (ks := [1]) (H := ZB8 n tail L.ss.st L.ss.dl L.cl L.no L.ah L.la L.wo L.sp) (np := 4) rfl (by decide) rfl rfl rfl) (ZAC.pre key ?_)) ?_
 ·exact ZAA
 ·rintro x h k ⟨rfl, rfl, rfl⟩ _
  (refine ZAB (H := (ZB8 n tail r.2.1.ss.st r.2.1.ss.dl r.2.1.cl r.2.1.no r.2.1.ah r.2.1.la r.2.1.wo r.2.1.sp)) (np := 4) 0 1 (Nat.le_of_ble_eq_true rfl) ?_; conv => whnf); (refine zK ?_)
  exact fA
theorem ZL3 (S : K1) (v : Value) (args : Array Value) (w : World) : (callMethod (.iface S.T v) "Step" args).run Tryz.prog w = .ok (.enter S.F (#[v] ++ args)) w := by
 cases S <;> kernel_rfl
theorem ZHF (S : K1) (n nt nw ta : Nat) (t now : Int) (hs : Nat -> Int) (s : PS) (hta : ta < nt) (hnt : nt <= 64) (hn : n <= 64) (hnw : nw <= 4096) (hok : S.ok n) :
  ZDk Tryz.prog (.l (.i S.T 0)) "Step" [(0, some (.ob [1] (S.R n))), (1, some (ZBK nt nw hs s))] 2 [.l (.v (.int .i64 t)), .l (.v (.int .i64 ta)), .l (.v (.int .i64 now))] fun x h k =>
   x = didO (S.step n nw t now ta s).1 /\ k = 2 /\ h = [(0, some (.ob [1] ((S.step n nw t now ta s).2.1.R n))), (1, some (ZBK nt nw hs (S.step n nw t now ta s).2.2))] := by
 refine ZJu (ZL3 S) ?_
 cases S with
 | fl nx ow L => exact ZNP n nt nw ta nx ow t now hs L s hta hnt hn hnw
 | sl tail m L => exact ZNQ n nt nw ta tail m t now hs L s hta hnt hn hnw hok
 | cl tail L => exact ZNR n nt nw ta tail t now hs L s hta hnt hn hnw hok
 | mc tail L => exact ZNS n nt nw ta tail t now hs L s hta hnt hn hnw
 | ab E tail L => exact ZNT n nt nw ta E tail t now hs L s hta hnt hn hnw hok
 | hi tail L => exact ZNU n nt nw ta tail t now hs L s hta hnt hn hnw hok
theorem ZKE : IvS 221 "Lock" 210 := ZA0 fun a args w => by kernel_rfl
theorem ZIt : IvS 224 "Lock" 210 := ZA0 fun a args w => by kernel_rfl
theorem ZL4 : IvS 227 "Lock" 210 := ZA0 fun a args w => by kernel_rfl
theorem ZL5 : IvS 230 "Lock" 210 := ZA0 fun a args w => by kernel_rfl
theorem ZIu : IvS 233 "Lock" 210 := ZA0 fun a args w => by kernel_rfl
theorem ZKF : IvS 236 "Lock" 210 := ZA0 fun a args w => by kernel_rfl
theorem ZNV (S : K1) (n : Nat) (t d : Int) (hn : n <= 64) :
  ZDk Tryz.prog (.l (.i S.T 0)) "Lock" [(0, some (.ob [1] (S.R n)))] 2 [.l (.v (.int .i64 t)), .l (.v (.int .i64 d))] fun x h k => x = sInt .i64 (lkE n S.ss.st S.tm t d) /\ k = 2 /\ h = [(0, some (.ob [1] ((S.set (lkSt n S.ss.st S.tm t d) (lkDl n S.ss.st S.ss.dl S.tm t d)).R n)))] := by
 have hq := ZFe n S.ss.st S.ss.dl S.tm S.pr t d hn
 refine ZBj fun G hP hA => ?_
 cases S with
 | fl nx ow L =>
  refine ZAU (ZAY 0 (ks := [1]) (H := ZBz n nx ow L.ss.st L.ss.dl L.nu L.dr) (np := 5) rfl (by decide) rfl rfl rfl) ?_
  refine ZAX hP ZKE rfl rfl ?_
  conv => whnf
  refine cA (hq) ?_
  (refine ZAB (H := (ZBz n nx ow (lkSt n L.ss.st false t d) (lkDl n L.ss.st L.ss.dl false t d) L.nu L.dr)) (np := 5) 0 1 (Nat.le_of_ble_eq_true rfl) ?_; conv => whnf); (refine zK ?_)
  exact fA
 | sl tail m L =>
  refine ZAU (ZAY 0 (ks := [1]) (H := ZBP n tail m L.ss.st L.ss.dl L.nu L.sp) (np := 4) rfl (by decide) rfl rfl rfl) ?_
  refine ZAX hP ZIt rfl rfl ?_
  conv => whnf
  refine cA (hq) ?_
  (refine ZAB (H := (ZBP n tail m (lkSt n L.ss.st false t d) (lkDl n L.ss.st L.ss.dl false t d) L.nu L.sp)) (np := 4) 0 1 (Nat.le_of_ble_eq_true rfl) ?_; conv => whnf); (refine zK ?_)
  exact fA
 | cl tail L =>
  refine ZAU (ZAY 0 (ks := [1]) (H := ZDS n tail L.ss.st L.ss.dl L.no L.ah L.sp) (np := 4) rfl (by decide) rfl rfl rfl) ?_
  refine ZAX hP ZL4 rfl rfl ?_
  conv => whnf
  refine cA (hq) ?_
  (refine ZAB (H := (ZDS n tail (lkSt n L.ss.st false t d) (lkDl n L.ss.st L.ss.dl false t d) L.no L.ah L.sp)) (np := 4) 0 1 (Nat.le_of_ble_eq_true rfl) ?_; conv => whnf); (refine zK ?_)
  exact fA
 | mc tail L =>
  refine ZAU (ZAY 0 (ks := [1]) (H := ZDT n tail L.ss.st L.ss.dl L.sp L.ot) (np := 4) rfl (by decide) rfl rfl rfl) ?_
  refine ZAX hP ZL5 rfl rfl ?_
  conv => whnf
  refine cA (hq) ?_
  (refine ZAB (H := (ZDT n tail (lkSt n L.ss.st false t d) (lkDl n L.ss.st L.ss.dl false t d) L.sp L.ot)) (np := 4) 0 1 (Nat.le_of_ble_eq_true rfl) ?_; conv => whnf); (refine zK ?_)
  exact fA
 | ab E tail L =>
  refine ZAU (ZAY 0 (ks := [1]) (H := ZBs n E tail L.ss.st L.ss.dl L.sp L.tr L.no L.ot) (np := 5) rfl (by decide) rfl rfl rfl) ?_
  refine ZAX hP ZIu rfl rfl ?_
  conv => whnf
  refine cA (hq) ?_
  (refine ZAB (H := (ZBs n E tail (lkSt n L.ss.st true t d) (lkDl n L.ss.st L.ss.dl true t d) L.sp L.tr L.no L.ot)) (np := 5) 0 1 (Nat.le_of_ble_eq_true rfl) ?_; conv => whnf); (refine zK ?_)
  exact fA
 | hi tail L =>
  refine ZAU (ZAY 0 (ks := [1]) (H := ZB8 n tail L.ss.st L.ss.dl L.cl L.no L.ah L.la L.wo L.sp) (np := 4) rfl (by decide) rfl rfl rfl) ?_
  refine ZAX hP ZKF rfl rfl ?_
  conv => whnf
  refine cA (hq) ?_
  (refine ZAB (H := (ZB8 n tail (lkSt n L.ss.st false t d) (lkDl n L.ss.st L.ss.dl false t d) L.cl L.no L.ah L.la L.wo L.sp)) (np := 4) 0 1 (Nat.le_of_ble_eq_true rfl) ?_; conv => whnf); (refine zK ?_)
  exact fA
theorem ZHl : IvS 221 "Unlock" 214 := ZA0 fun a args w => by kernel_rfl
theorem ZGz : IvS 224 "Unlock" 214 := ZA0 fun a args w => by kernel_rfl
theorem ZIv : IvS 227 "Unlock" 214 := ZA0 fun a args w => by kernel_rfl
theorem ZIw : IvS 230 "Unlock" 214 := ZA0 fun a args w => by kernel_rfl
theorem ZG0 : IvS 233 "Unlock" 214 := ZA0 fun a args w => by kernel_rfl
theorem ZHm : IvS 236 "Unlock" 214 := ZA0 fun a args w => by kernel_rfl
theorem ZHn (S : K1) (n : Nat) (t : Int) (hn : n <= 64) :
  ZDk Tryz.prog (.l (.i S.T 0)) "Unlock" [(0, some (.ob [1] (S.R n)))] 2 [.l (.v (.int .i64 t))] fun x h k => x = sInt .i64 (hoE n S.ss.st t) /\ k = 2 /\ h = [(0, some (.ob [1] ((S.set (ulSt n S.ss.st t 3) S.ss.dl).R n)))] := by
 have hq := ZEJ n S.ss.st S.ss.dl S.tm S.pr t hn
 refine ZBj fun G hP hA => ?_
 cases S with
 | fl nx ow L =>
  refine ZAU (ZAY 0 (ks := [1]) (H := ZBz n nx ow L.ss.st L.ss.dl L.nu L.dr) (np := 5) rfl (by decide) rfl rfl rfl) ?_
  refine ZAX hP ZHl rfl rfl ?_
  conv => whnf
  refine cA (hq) ?_
  (refine ZAB (H := (ZBz n nx ow (ulSt n L.ss.st t 3) L.ss.dl L.nu L.dr)) (np := 5) 0 1 (Nat.le_of_ble_eq_true rfl) ?_; conv => whnf); (refine zK ?_)
  exact fA
 | sl tail m L =>
  refine ZAU (ZAY 0 (ks := [1]) (H := ZBP n tail m L.ss.st L.ss.dl L.nu L.sp) (np := 4) rfl (by decide) rfl rfl rfl) ?_
  refine ZAX hP ZGz rfl rfl ?_
  conv => whnf
  refine cA (hq) ?_
  (refine ZAB (H := (ZBP n tail m (ulSt n L.ss.st t 3) L.ss.dl L.nu L.sp)) (np := 4) 0 1 (Nat.le_of_ble_eq_true rfl) ?_; conv => whnf); (refine zK ?_)
  exact fA
 | cl tail L =>
  refine ZAU (ZAY 0 (ks := [1]) (H := ZDS n tail L.ss.st L.ss.dl L.no L.ah L.sp) (np := 4) rfl (by decide) rfl rfl rfl) ?_
  refine ZAX hP ZIv rfl rfl ?_
  conv => whnf
  refine cA (hq) ?_
  (refine ZAB (H := (ZDS n tail (ulSt n L.ss.st t 3) L.ss.dl L.no L.ah L.sp)) (np := 4) 0 1 (Nat.le_of_ble_eq_true rfl) ?_; conv => whnf); (refine zK ?_)
  exact fA
 | mc tail L =>
  refine ZAU (ZAY 0 (ks := [1]) (H := ZDT n tail L.ss.st L.ss.dl L.sp L.ot) (np := 4) rfl (by decide) rfl rfl rfl) ?_
  refine ZAX hP ZIw rfl rfl ?_
  conv => whnf
  refine cA (hq) ?_
  (refine ZAB (H := (ZDT n tail (ulSt n L.ss.st t 3) L.ss.dl L.sp L.ot)) (np := 4) 0 1 (Nat.le_of_ble_eq_true rfl) ?_; conv => whnf); (refine zK ?_)
  exact fA
 | ab E tail L =>
  refine ZAU (ZAY 0 (ks := [1]) (H := ZBs n E tail L.ss.st L.ss.dl L.sp L.tr L.no L.ot) (np := 5) rfl (by decide) rfl rfl rfl) ?_
  refine ZAX hP ZG0 rfl rfl ?_
  conv => whnf
  refine cA (hq) ?_
  (refine ZAB (H := (ZBs n E tail (ulSt n L.ss.st t 3) L.ss.dl L.sp L.tr L.no L.ot)) (np := 5) 0 1 (Nat.le_of_ble_eq_true rfl) ?_; conv => whnf); (refine zK ?_)
  exact fA
 | hi tail L =>
  refine ZAU (ZAY 0 (ks := [1]) (H := ZB8 n tail L.ss.st L.ss.dl L.cl L.no L.ah L.la L.wo L.sp) (np := 4) rfl (by decide) rfl rfl rfl) ?_
  refine ZAX hP ZHm rfl rfl ?_
  conv => whnf
  refine cA (hq) ?_
  (refine ZAB (H := (ZB8 n tail (ulSt n L.ss.st t 3) L.ss.dl L.cl L.no L.ah L.la L.wo L.sp)) (np := 4) 0 1 (Nat.le_of_ble_eq_true rfl) ?_; conv => whnf); (refine zK ?_)
  exact fA
theorem ZIx : IvS 221 "Probe" 211 := ZA0 fun a args w => by kernel_rfl
theorem ZHo : IvS 224 "Probe" 211 := ZA0 fun a args w => by kernel_rfl
theorem ZKG : IvS 227 "Probe" 211 := ZA0 fun a args w => by kernel_rfl
theorem ZKH : IvS 230 "Probe" 211 := ZA0 fun a args w => by kernel_rfl
theorem ZHp : IvS 233 "Probe" 211 := ZA0 fun a args w => by kernel_rfl
theorem ZIy : IvS 236 "Probe" 211 := ZA0 fun a args w => by kernel_rfl
theorem ZPh (S : K1) (n : Nat) (t : Int) (hn : n <= 64) :
  ZDk Tryz.prog (.l (.i S.T 0)) "Probe" [(0, some (.ob [1] (S.R n)))] 2 [.l (.v (.int .i64 t))] fun x h k => x = sInt .i64 (prE n S.ss.st S.pr t) /\ k = 2 /\ h = [(0, some (.ob [1] ((S.set (prSt n S.ss.st S.pr t) S.ss.dl).R n)))] := by
 have hq := ZHk n S.ss.st S.ss.dl S.tm S.pr t hn
 refine ZBj fun G hP hA => ?_
 cases S with
 | fl nx ow L =>
  refine ZAU (ZAY 0 (ks := [1]) (H := ZBz n nx ow L.ss.st L.ss.dl L.nu L.dr) (np := 5) rfl (by decide) rfl rfl rfl) ?_
  refine ZAX hP ZIx rfl rfl ?_
  conv => whnf
  refine cA (hq) ?_
  (refine ZAB (H := (ZBz n nx ow (prSt n L.ss.st true t) L.ss.dl L.nu L.dr)) (np := 5) 0 1 (Nat.le_of_ble_eq_true rfl) ?_; conv => whnf); (refine zK ?_)
  exact fA
 | sl tail m L =>
  refine ZAU (ZAY 0 (ks := [1]) (H := ZBP n tail m L.ss.st L.ss.dl L.nu L.sp) (np := 4) rfl (by decide) rfl rfl rfl) ?_
  refine ZAX hP ZHo rfl rfl ?_
  conv => whnf
  refine cA (hq) ?_
  (refine ZAB (H := (ZBP n tail m (prSt n L.ss.st false t) L.ss.dl L.nu L.sp)) (np := 4) 0 1 (Nat.le_of_ble_eq_true rfl) ?_; conv => whnf); (refine zK ?_)
  exact fA
 | cl tail L =>
  refine ZAU (ZAY 0 (ks := [1]) (H := ZDS n tail L.ss.st L.ss.dl L.no L.ah L.sp) (np := 4) rfl (by decide) rfl rfl rfl) ?_
  refine ZAX hP ZKG rfl rfl ?_
  conv => whnf
  refine cA (hq) ?_
  (refine ZAB (H := (ZDS n tail (prSt n L.ss.st true t) L.ss.dl L.no L.ah L.sp)) (np := 4) 0 1 (Nat.le_of_ble_eq_true rfl) ?_; conv => whnf); (refine zK ?_)
  exact fA
 | mc tail L =>
  refine ZAU (ZAY 0 (ks := [1]) (H := ZDT n tail L.ss.st L.ss.dl L.sp L.ot) (np := 4) rfl (by decide) rfl rfl rfl) ?_
  refine ZAX hP ZKH rfl rfl ?_
  conv => whnf
  refine cA (hq) ?_
  (refine ZAB (H := (ZDT n tail (prSt n L.ss.st true t) L.ss.dl L.sp L.ot)) (np := 4) 0 1 (Nat.le_of_ble_eq_true rfl) ?_; conv => whnf); (refine zK ?_)
  exact fA
 | ab E tail L =>
  refine ZAU (ZAY 0 (ks := [1]) (H := ZBs n E tail L.ss.st L.ss.dl L.sp L.tr L.no L.ot) (np := 5) rfl (by decide) rfl rfl rfl) ?_
  refine ZAX hP ZHp rfl rfl ?_
  conv => whnf
  refine cA (hq) ?_
  (refine ZAB (H := (ZBs n E tail (prSt n L.ss.st false t) L.ss.dl L.sp L.tr L.no L.ot)) (np := 5) 0 1 (Nat.le_of_ble_eq_true rfl) ?_; conv => whnf); (refine zK ?_)
  exact fA
 | hi tail L =>
  refine ZAU (ZAY 0 (ks := [1]) (H := ZB8 n tail L.ss.st L.ss.dl L.cl L.no L.ah L.la L.wo L.sp) (np := 4) rfl (by decide) rfl rfl rfl) ?_
  refine ZAX hP ZIy rfl rfl ?_
  conv => whnf
  refine cA (hq) ?_
  (refine ZAB (H := (ZB8 n tail (prSt n L.ss.st false t) L.ss.dl L.cl L.no L.ah L.la L.wo L.sp)) (np := 4) 0 1 (Nat.le_of_ble_eq_true rfl) ?_; conv => whnf); (refine zK ?_)
  exact fA
theorem ZIz : IvS 221 "State" 212 := ZA0 fun a args w => by kernel_rfl
theorem ZHq : IvS 224 "State" 212 := ZA0 fun a args w => by kernel_rfl
theorem ZKI : IvS 227 "State" 212 := ZA0 fun a args w => by kernel_rfl
theorem ZKJ : IvS 230 "State" 212 := ZA0 fun a args w => by kernel_rfl
theorem ZHr : IvS 233 "State" 212 := ZA0 fun a args w => by kernel_rfl
theorem ZI0 : IvS 236 "State" 212 := ZA0 fun a args w => by kernel_rfl
theorem ZPi (S : K1) (n : Nat) (t : Int) (hn : n <= 64) :
  ZDk Tryz.prog (.l (.i S.T 0)) "State" [(0, some (.ob [1] (S.R n)))] 2 [.l (.v (.int .i64 t))] fun x h k => x = sInt .i64 (stV n S.ss.st t) /\ k = 2 /\ h = [(0, some (.ob [1] (S.R n)))] := by
 have hq := ZAs n S.ss.st S.ss.dl S.tm S.pr t
 refine ZBj fun G hP hA => ?_
 cases S with
 | fl nx ow L =>
  refine ZAU (ZAY 0 (ks := [1]) (H := ZBz n nx ow L.ss.st L.ss.dl L.nu L.dr) (np := 5) rfl (by decide) rfl rfl rfl) ?_
  refine ZAX hP ZIz rfl rfl ?_
  conv => whnf
  refine cA (hq) ?_
  (refine ZAB (H := (ZBz n nx ow L.ss.st L.ss.dl L.nu L.dr)) (np := 5) 0 1 (Nat.le_of_ble_eq_true rfl) ?_; conv => whnf); (refine zK ?_)
  exact fA
 | sl tail m L =>
  refine ZAU (ZAY 0 (ks := [1]) (H := ZBP n tail m L.ss.st L.ss.dl L.nu L.sp) (np := 4) rfl (by decide) rfl rfl rfl) ?_
  refine ZAX hP ZHq rfl rfl ?_
  conv => whnf
  refine cA (hq) ?_
  (refine ZAB (H := (ZBP n tail m L.ss.st L.ss.dl L.nu L.sp)) (np := 4) 0 1 (Nat.le_of_ble_eq_true rfl) ?_; conv => whnf); (refine zK ?_)
  exact fA
 | cl tail L =>
  refine ZAU (ZAY 0 (ks := [1]) (H := ZDS n tail L.ss.st L.ss.dl L.no L.ah L.sp) (np := 4) rfl (by decide) rfl rfl rfl) ?_
  refine ZAX hP ZKI rfl rfl ?_
  conv => whnf
  refine cA (hq) ?_
  (refine ZAB (H := (ZDS n tail L.ss.st L.ss.dl L.no L.ah L.sp)) (np := 4) 0 1 (Nat.le_of_ble_eq_true rfl) ?_; conv => whnf); (refine zK ?_)
  exact fA
 | mc tail L =>
  refine ZAU (ZAY 0 (ks := [1]) (H := ZDT n tail L.ss.st L.ss.dl L.sp L.ot) (np := 4) rfl (by decide) rfl rfl rfl) ?_
  refine ZAX hP ZKJ rfl rfl ?_
  conv => whnf
  refine cA (hq) ?_
  (refine ZAB (H := (ZDT n tail L.ss.st L.ss.dl L.sp L.ot)) (np := 4) 0 1 (Nat.le_of_ble_eq_true rfl) ?_; conv => whnf); (refine zK ?_)
  exact fA
 | ab E tail L =>
  refine ZAU (ZAY 0 (ks := [1]) (H := ZBs n E tail L.ss.st L.ss.dl L.sp L.tr L.no L.ot) (np := 5) rfl (by decide) rfl rfl rfl) ?_
  refine ZAX hP ZHr rfl rfl ?_
  conv => whnf
  refine cA (hq) ?_
  (refine ZAB (H := (ZBs n E tail L.ss.st L.ss.dl L.sp L.tr L.no L.ot)) (np := 5) 0 1 (Nat.le_of_ble_eq_true rfl) ?_; conv => whnf); (refine zK ?_)
  exact fA
 | hi tail L =>
  refine ZAU (ZAY 0 (ks := [1]) (H := ZB8 n tail L.ss.st L.ss.dl L.cl L.no L.ah L.la L.wo L.sp) (np := 4) rfl (by decide) rfl rfl rfl) ?_
  refine ZAX hP ZI0 rfl rfl ?_
  conv => whnf
  refine cA (hq) ?_
  (refine ZAB (H := (ZB8 n tail L.ss.st L.ss.dl L.cl L.no L.ah L.la L.wo L.sp)) (np := 4) 0 1 (Nat.le_of_ble_eq_true rfl) ?_; conv => whnf); (refine zK ?_)
  exact fA
def inT : Nat -> Nat
 | 1 => 221
 | 3 => 227
 | _ => 230
def inN : Nat -> Nat -> Nat
 | 1, _ => 2
 | 3, m => 2 + m
 | _, m => 1 + 2 * m
def inHs : Nat -> (Nat -> Int) -> Nat -> (Nat -> Int) -> Nat -> Nat -> Int
 | 1, hs, M, h, _ => ZEM hs M h
 | 3, hs, M, h, m => ZH5 hs M h m
 | _, hs, M, h, m => ZH6 hs M h m
def inWs : Nat -> (Nat -> Int) -> Nat -> Nat -> Nat -> Int
 | 1, ws, M, _ => ZGQ ws M 0
 | 3, ws, M, m => ZJC ws M m
 | _, ws, M, m => ZJF ws M m
abbrev RelT := List Go.Sx.Loc -> Go.Sx.Loc -> List Nat -> World -> Prop
def inR0 : Nat -> Nat -> Nat -> RelT
 | 1, m, M => ZAl (ZLT m M (M + 1) (fun _ => 0) (fun _ => -1) (fun _ => 0) fun _ => false) 4
 | 3, m, M => ZAl (ZOt m M (fun _ => 0) (fun _ => -1) (fun i => i + 1) (fun _ => 0) fun _ => 0) 3
 | _, m, M => ZAl (ZOw m M (fun _ => 0) (fun _ => -1) (fun _ => 0) fun _ => 0) 3
def inR1 : Nat -> Nat -> Nat -> RelT
 | 1, m, M => ZAl (ZBz m M (M + 1) (fun _ => 0) (fun _ => -1) (fun _ => 0) fun _ => false) 5
 | 3, m, M => ZAl (ZDS m M (fun _ => 0) (fun _ => -1) (fun i => i + 1) (fun _ => 0) fun _ => 0) 4
 | _, m, M => ZAl (ZDT m M (fun _ => 0) (fun _ => -1) (fun _ => 0) fun _ => 0) 4
theorem ZAS (k m M : Nat) (ls : List Go.Sx.Loc) : ZCc (inR0 k m M ls) := by
 unfold inR0; split <;> exact ZBO _ _ _
theorem ZAi (k m M : Nat) (ls : List Go.Sx.Loc) : ZCc (inR1 k m M ls) := by
 unfold inR1; split <;> exact ZBO _ _ _
def ZQz : Nat -> Nat
 | 1 => 215
 | 3 => 236
 | _ => 244
def isIn (k : Nat) : Prop := k = 1 \/ k = 3 \/ k = 4
theorem ZCf (kd : Nat) (hk : isIn kd) (th : Int) (M : Nat) (hs ws h : Nat -> Int) (m : Nat) (hM : M <= 10000) (hm : 1 <= m /\ m <= 64) (hb : anyZ badH h m = false) :
  ZAC Tryz.prog 143 [(0, some (ZBA th M hs ws)), (1, some (.ro 1 m (numE h)))] 2 [.l (.p 0 0 0 0), .l (.v (.int .i64 kd)), .l (.s 1 1 0 m 0)] fun x h' k =>
   x = .o (.l (.i (inT kd) 2)) /\ k = 3 /\ h' = [(0, some (ZBA th (M + inN kd m) (inHs kd hs M h m) (inWs kd ws M m))), (2, some (.ob [] (inR0 kd m M)))] := by
 have h1 := ZHM th M hs ws h m 0 (by omega) hm hb
 have h3 := ZJD th M hs ws h m (by omega) hm hb
 have h4 := ZJG th M hs ws h m (by omega) hm hb
 refine sE Tryz.func143 ic143_eq [.t 6] fun G hP hA => ?_
 unfold evF ic143
 rcases hk with rfl | rfl | rfl
 ·conv => whnf
  refine cA (h1) ?_
  exact fA
 ·rw [Nat.add_assoc] at h3
  conv => whnf
  refine cA (h3) ?_
  exact fA
 ·rw [Nat.add_assoc] at h4
  conv => whnf
  refine cA (h4) ?_
  exact fA
theorem ZBk (kd : Nat) (hk : isIn kd) (m M : Nat) :
  ZAC Tryz.prog (ZQz kd) [(0, some (.ob [] (inR0 kd m M)))] 2 [.l (.p 0 0 0 0), .l (.p 1 0 0 0)] fun x h k => x = .t [] /\ k = 2 /\ h = [(0, some (.ob [1] (inR1 kd m M)))] := by
 rcases hk with rfl | rfl | rfl
 ·exact ZFg m M (M + 1) (fun _ => 0) (fun _ => -1) (fun _ => 0) fun _ => false
 ·exact ZGP m M (fun _ => 0) (fun _ => -1) (fun i => i + 1) (fun _ => 0) fun _ => 0
 ·exact ZGS m M (fun _ => 0) (fun _ => -1) (fun _ => 0) fun _ => 0
theorem ZB9 (kd : Nat) (hk : isIn kd) (v : Value) (args : Array Value) (w : World) : (callMethod (.iface (inT kd) v) "Use" args).run Tryz.prog w = .ok (.enter (ZQz kd) (#[v] ++ args)) w := by
 rcases hk with rfl | rfl | rfl
 ·exact ZGR v args w
 ·exact ZHL v args w
 ·exact ZHN v args w
theorem ZJW (th : Int) (M : Nat) (hs ws : Nat -> Int) : ZAC Tryz.prog 142 [(0, some (ZBA th M hs ws))] 1 [.l (.p 0 0 0 0)] fun x h k => x = sInt .i64 (M : Int) /\ k = 1 /\ h = [(0, some (ZBA th M hs ws))] := by
 refine sG (ZAZ (ZKX th M hs ws) 3 0 (by omega)) Tryz.func142 ic142_eq [.t 2] fun G hP hA => ?_
 unfold evF ic142
 conv => whnf
 (refine ZAB (H := (ZKX th M hs ws)) (np := 3) 0 0 (Nat.le_of_ble_eq_true rfl) ?_; conv => whnf); (refine zK ?_)
 exact fA
theorem ZKk (v : Int) : ZAC Tryz.prog 141 [] 0 [.l (.v (.int .i64 v))] fun x h n => x = ZAW (badH v) /\ n = 0 /\ h = [] := by
 refine sE Tryz.func141 ic141_eq [.t 2] fun G hP hA => ?_
 unfold evF ic141
 conv => whnf
 (repeat' (first | (refine ZAF ?_; conv => whnf) | (refine dsplit (fun _ => ?_) (fun _ => ?_) <;> conv => whnf)))
 all_goals ((refine fB ?_); unfold badH; rw [Bool.eq_iff_iff]; simp; omega)
def gl2 : Nat -> Int | 0 => 1 | _ => 4
def loc3 : Nat -> Int | 0 => 1 | 1 => 3 | _ => 4
def cnt (h : Nat -> Int) : Nat -> Nat -> Nat
 | 0, _ => 0
 | i + 1, j => cnt h i j + if h i = (j : Int) then 1 else 0
theorem ZHP (h : Nat -> Int) : ∀ i j, cnt h i j <= i
 | 0, _ => Nat.le_refl 0
 | i + 1, j => by
  have := ZHP h i j
  simp only [cnt]
  split <;> omega
def l3 (l : Nat) (cn : Nat -> Nat) (p0 : Nat × (Nat -> Int) × (Nat -> Int)) : Nat -> Nat × (Nat -> Int) × (Nat -> Int)
 | 0 => p0
 | i + 1 => bif Nat.blt 0 (cn i) then ((l3 l cn p0 i).1 + inN l (cn i), inHs l (l3 l cn p0 i).2.1 (l3 l cn p0 i).1 (fun _ => (i : Int)) (cn i), inWs l (l3 l cn p0 i).2.2 (l3 l cn p0 i).1 (cn i)) else l3 l cn p0 i
theorem ZEN {l : Nat} {cn : Nat -> Nat} {p0 : Nat × (Nat -> Int) × (Nat -> Int)} {i : Nat} (h : Nat.blt 0 (cn i) = true) : l3 l cn p0 (i + 1) = ((l3 l cn p0 i).1 + inN l (cn i), inHs l (l3 l cn p0 i).2.1 (l3 l cn p0 i).1 (fun _ => (i : Int)) (cn i), inWs l (l3 l cn p0 i).2.2 (l3 l cn p0 i).1 (cn i)) := by rw [l3, h]; rfl
theorem ZG5 {l : Nat} {cn : Nat -> Nat} {p0 : Nat × (Nat -> Int) × (Nat -> Int)} {i : Nat} (h : Nat.blt 0 (cn i) = false) : l3 l cn p0 (i + 1) = l3 l cn p0 i := by rw [l3, h]; rfl
theorem ZLW (k m : Nat) : inN k m <= 2 + 2 * m := by unfold inN; split <;> omega
theorem ZGU {l : Nat} {cn : Nat -> Nat} {p0 : Nat × (Nat -> Int) × (Nat -> Int)} (hc : ∀ j, cn j <= 64) : ∀ i, (l3 l cn p0 i).1 <= p0.1 + 130 * i
 | 0 => Nat.le_refl _
 | i + 1 => by
  have ih := ZGU (l := l) (p0 := p0) hc i
  cases h : Nat.blt 0 (cn i) with
  | true =>
   rw [ZEN h]
   have h1 := ZLW l (cn i)
   have h2 := hc i
   show (l3 l cn p0 i).1 + inN l (cn i) <= _
   omega
  | false => rw [ZG5 h]; omega
def lb (cn : Nat -> Nat) (i j : Nat) : Bool := Nat.blt j i && Nat.blt 0 (cn j)
def ZLX (no inn : Nat -> Int) : Nat -> List Value := fun t => [.int .i64 (no t), .int .i64 (inn t), .nilFunc, .int .u32 0]
def ZCb (h : Nat -> Int) (i : Nat) : Nat -> List Value := ZLX (fun t => if t < i then h t else 0) fun t => if t < i then (cnt h t (h t).toNat : Int) else 0
def p0F (M g : Nat) (hs ws : Nat -> Int) : Nat × (Nat -> Int) × (Nat -> Int) := (M + 8 + inN g 8, inHs g (ZBH hs M (fun i => (i : Int)) 8) (M + 8) (fun i => (i : Int)) 8, inWs g (ZBH ws M (fun _ => 0) 8) (M + 8) 8)
def ZPv (m M g l : Nat) (budget : Int) (cn : Nat -> Nat) (p0 : Nat × (Nat -> Int) × (Nat -> Int)) (pl : Nat -> List Value) : Heap :=
 [(0, some (.st [.p 1 0 0 0, .v (.pointer none), .v (.int .i64 M), .v (.int .u32 budget), .i (inT g) 2, .io (lb cn 8 0) (inT l) 4, .io (lb cn 8 1) (inT l) 5, .io (lb cn 8 2) (inT l) 6, .io (lb cn 8 3) (inT l) 7, .io (lb cn 8 4) (inT l) 8, .io (lb cn 8 5) (inT l) 9, .io (lb cn 8 6) (inT l) 10, .io (lb cn 8 7) (inT l) 11, .s 3 4 0 m 0])), (1, some (ZBZ m (fun _ => 0) (fun _ => -1) false false)), (2, some (.ob [] (inR0 g 8 (M + 8)))), (3, some (.ar 4 m pl)), (4, some (.ob [] (OptR (lb cn 8 0) (inR0 l (cn 0) (l3 l cn p0 0).1)))), (5, some (.ob [] (OptR (lb cn 8 1) (inR0 l (cn 1) (l3 l cn p0 1).1)))), (6, some (.ob [] (OptR (lb cn 8 2) (inR0 l (cn 2) (l3 l cn p0 2).1)))), (7, some (.ob [] (OptR (lb cn 8 3) (inR0 l (cn 3) (l3 l cn p0 3).1)))), (8, some (.ob [] (OptR (lb cn 8 4) (inR0 l (cn 4) (l3 l cn p0 4).1)))), (9, some (.ob [] (OptR (lb cn 8 5) (inR0 l (cn 5) (l3 l cn p0 5).1)))), (10, some (.ob [] (OptR (lb cn 8 6) (inR0 l (cn 6) (l3 l cn p0 6).1)))), (11, some (.ob [] (OptR (lb cn 8 7) (inR0 l (cn 7) (l3 l cn p0 7).1))))]
def ZOz (m M g l : Nat) (budget : Int) (cn : Nat -> Nat) (p0 : Nat × (Nat -> Int) × (Nat -> Int)) (pl : Nat -> List Value) : Ent := .ob [] (ZAl (ZPv m M g l budget cn p0 pl) 12)
theorem ZCA {v : Int} (hv : badH v = false) : ∀ n, anyZ badH (fun _ => v) n = false
 | 0 => rfl
 | n + 1 => by rw [anyZ, ZCA hv n, hv]; rfl
theorem ZB0 {h : Nat -> Int} {i c : Nat} {x : Nat} (hc : h i = (c : Int)) (hx : x = cnt h i c) (t : Nat) : mrgL (t = i) (ZAG (ZCb h i t) 0 [.int .i64 (c : Int), .int .i64 (x : Int), .nilFunc, .int .u32 0]) (ZCb h i t) = ZCb h (i + 1) t := by
 rw [ZFR _ _ _ (by rw [ZA5])]
 by_cases e : t = i
 ·subst e
  rw [if_pos rfl]
  simp only [ZCb, ZLX, ZAG, setL, Nat.lt_succ_self, if_true, hc, hx, Int.toNat_natCast]
 ·rw [if_neg e]
  simp only [ZCb, ZLX, show (t < i + 1) ↔ (t < i) from by omega]
theorem ZC7 {h : Nat -> Int} {i c : Nat} {cn : Nat -> Nat} (hc : h i = (c : Int)) (hn : ∀ j, cn j = cnt h i j) (j : Nat) : (if j = c then cn j + 1 else cn j) = cnt h (i + 1) j := by
 simp only [cnt, hn, hc]
 by_cases e : j = c
 ·subst e; simp
 ·rw [if_neg e, if_neg (by omega), Nat.add_zero]
theorem ZNo (th : Int) (M : Nat) (hs ws h : Nat -> Int) (m g l : Nat) (bu : Int) (hM : M <= 5000) (hm : 1 <= m /\ m <= 64) (hb : anyZ badH h m = false) (hg : g = 1 \/ g = 4) (hl : isIn l) (hbu : 1 <= bu /\ bu <= 1000) :
  ZAC Tryz.prog 111 [(0, some (ZBA th M hs ws)), (1, some (.ro 1 m (numE h)))] 2 [.l (.p 0 0 0 0), .l (.s 1 1 0 m 0), .l (.v (.int .i64 g)), .l (.v (.int .i64 l)), .l (.v (.int .i64 bu))] fun x h' k =>
   x = .t [.l (.p 2 0 0 0), .l (.v (.int .i64 0))] /\ k = 3 /\ h' = [(0, some (ZBA th (l3 l (cnt h m) (p0F M g hs ws) 8).1 (l3 l (cnt h m) (p0F M g hs ws) 8).2.1 (l3 l (cnt h m) (p0F M g hs ws) 8).2.2)),
    (2, some (ZOz m M g l bu (cnt h m) (p0F M g hs ws) (ZCb h m)))] := by
 have hse := ZCK m false false (by omega)
 have hcf := ZBG 141 badH ZKk h m (by omega)
 rw [hb] at hcf
 have hc2 := ZDZ (g : Int) gl2 2 (by omega)
 rw [show anyZ (fun x => decide ((g : Int) = x)) gl2 2 = true from by rcases hg with rfl | rfl <;> simp [anyZ, gl2]] at hc2
 have hc3 := ZDZ (l : Int) loc3 3 (by omega)
 rw [show anyZ (fun x => decide ((l : Int) = x)) loc3 3 = true from by rcases hl with rfl | rfl | rfl <;> simp [anyZ, loc3]] at hc3
 have hpl := ZJW th M hs ws
 have hgi : isIn g := by unfold isIn; omega
 refine sE Tryz.func111 ic111_eq [.t 10, .t 11] fun G hP hA => ?_
 unfold evF ic111
 conv => whnf
 refine cA (hse) ?_
 refine cA (hcf) ?_
 refine cQ (hc2) ?_ ?_
 ·exact ⟨⟨rfl, Nat.le_refl _, fun i hi => by rcases (show i = 0 \/ i = 1 by omega) with rfl | rfl <;> rfl⟩, trivial⟩
 conv => whnf
 refine cQ (hc3) ?_ ?_
 ·exact ⟨⟨rfl, Nat.le_refl _, fun i hi => by rcases (show i = 0 \/ i = 1 \/ i = 2 by omega) with rfl | rfl | rfl <;> rfl⟩, trivial⟩
 conv => whnf
 refine dsplit (fun h1 => absurd h1 (by omega)) (fun _ => ?_)
 conv => whnf
 refine dsplit (fun h1 => absurd h1 (by omega)) (fun _ => ?_)
 conv => whnf
 (refine ZAe (by rw [hP]; exact follows) 60 (by kernel_rfl) ?_; conv => whnf)
 repeat' (first | (refine And.intro (by first | omega | (simp [ZAI]; omega)) ?_; conv => whnf) | (refine ZQZ (by omega) (by omega) ?_; conv => whnf) | (refine And.intro ?_ ?_ <;> (conv => whnf)))
 all_goals refine cA (hpl) ?_
 repeat' (first | (refine And.intro (by first | omega | (simp [ZAI]; omega)) ?_; conv => whnf) | (refine ZQZ (by omega) (by omega) ?_; conv => whnf) | (refine And.intro ?_ ?_ <;> (conv => whnf)))
 all_goals
  refine ZAf (α := Nat) (ds := []) (N := 9) (fun i => [(62, sInt .i64 (i : Int)), (15, .o (.l (.s 8 1 0 i 0)))]) []
   (fun i => [(0, some (ZBA th (M + i) (ZBH hs M (fun i => (i : Int)) i) (ZBH ws M (fun _ => 0) i))), (8, some (.ar 1 i (numE fun j => (j : Int))))])
   (fun i => i <= 8) (fun i => 8 - i) 0 (Nat.zero_le _) ?_ fun i hi => ?_
  ·conv => whnf
   refine Imp.trans (ZOT 15 1 (numE fun j => (j : Int)) rfl) ?_
   exact iA
  ·have hwi := ZA8 th (M + i) (ZBH hs M (fun i => (i : Int)) i) (ZBH ws M (fun _ => 0) i) (i : Int) 0 (by omega)
   conv => whnf
   refine dsplit (fun h1 => ?_) (fun h1 => ?_)
   ·replace h1 : (i : Int) < 8 := h1
    conv => whnf
    refine cA (hwi) ?_
    refine zP ?_
    refine ⟨i + 1, by omega, by omega, ?_⟩
    refine iQ ?_
    refine And.intro ?_ (And.intro (And.intro rfl (And.intro rfl fun j hj => ZAq (f := numE fun j => (j : Int)) (i := i) rfl j hj)) ?_)
    all_goals exact ZAA
   replace h1 : ¬ (i : Int) < 8 := h1
   obtain rfl : i = 8 := by omega
   have hin0 := ZCf g hgi th (M + 8) (ZBH hs M (fun i => (i : Int)) 8) (ZBH ws M (fun _ => 0) 8) (fun i => (i : Int)) 8 (by omega) (by omega) (by decide)
   generalize hp0 : (p0F M g hs ws) = p0
   have e1 : p0.1 = M + 8 + inN g 8 := by rw [<- hp0]; rfl
   have e2 : inHs g (ZBH hs M (fun i => (i : Int)) 8) (M + 8) (fun i => (i : Int)) 8 = p0.2.1 := by rw [<- hp0]; rfl
   have e3 : inWs g (ZBH ws M (fun _ => 0) 8) (M + 8) 8 = p0.2.2 := by rw [<- hp0]; rfl
   rw [<- e1, e2, e3] at hin0
   have e0 : p0.1 <= M + 26 := by rw [e1]; have := ZLW g 8; omega
   generalize hA1 : ZBH hs M (fun i => (i : Int)) 8 = hs8 at *
   generalize hA2 : ZBH ws M (fun _ => 0) 8 = ws8 at *
   conv => whnf
   refine cA (hin0) ?_
   refine ZAf (α := Nat × (Nat -> Nat)) (ds := []) (N := 18) (fun x => [(82, sInt .i64 (x.1 : Int))]) []
    (fun x => [(5, some (.ar 4 m (ZCb h x.1))), (7, some (.st [.s 10 1 0 (x.2 0) 0, .s 11 1 0 (x.2 1) 0, .s 12 1 0 (x.2 2) 0, .s 13 1 0 (x.2 3) 0, .s 14 1 0 (x.2 4) 0, .s 15 1 0 (x.2 5) 0, .s 16 1 0 (x.2 6) 0, .s 17 1 0 (x.2 7) 0])), (10, some (.ar 1 (x.2 0) (fun _ => [.int .i64 0]))), (11, some (.ar 1 (x.2 1) (fun _ => [.int .i64 1]))), (12, some (.ar 1 (x.2 2) (fun _ => [.int .i64 2]))), (13, some (.ar 1 (x.2 3) (fun _ => [.int .i64 3]))), (14, some (.ar 1 (x.2 4) (fun _ => [.int .i64 4]))), (15, some (.ar 1 (x.2 5) (fun _ => [.int .i64 5]))), (16, some (.ar 1 (x.2 6) (fun _ => [.int .i64 6]))), (17, some (.ar 1 (x.2 7) (fun _ => [.int .i64 7])))])
    (fun x => x.1 <= m /\ ∀ j, x.2 j = cnt h x.1 j) (fun x => m - x.1) (0, fun _ => 0) ⟨Nat.zero_le _, fun _ => rfl⟩ ?_ fun x hx => ?_
   ·conv => whnf
    refine Imp.trans (ZAa ((ZAQ.nilc 7 0 1 (fun _ => [.int .i64 0]) rfl rfl).trans ((ZAQ.nilc 7 1 1 (fun _ => [.int .i64 1]) rfl rfl).trans ((ZAQ.nilc 7 2 1 (fun _ => [.int .i64 2]) rfl rfl).trans ((ZAQ.nilc 7 3 1 (fun _ => [.int .i64 3]) rfl rfl).trans ((ZAQ.nilc 7 4 1 (fun _ => [.int .i64 4]) rfl rfl).trans ((ZAQ.nilc 7 5 1 (fun _ => [.int .i64 5]) rfl rfl).trans ((ZAQ.nilc 7 6 1 (fun _ => [.int .i64 6]) rfl rfl).trans (ZAQ.nilc 7 7 1 (fun _ => [.int .i64 7]) rfl rfl))))))))) ?_
    refine iQ ?_
    all_goals exact ZAA
   ·obtain ⟨i, cn⟩ := x
    obtain ⟨hi, hcn⟩ := hx
    replace hi : i <= m := hi
    replace hcn : ∀ j, cn j = cnt h i j := hcn
    conv => whnf
    refine dsplit (fun h1 => ?_) (fun h1 => ?_)
    ·replace h1 : (i : Int) < (m : Int) := h1
     have hbi : badH (h i) = false := ZAr.1 hb i (by omega)
     have hr : 0 <= h i /\ h i < 8 := by unfold badH at hbi; simp at hbi; omega
     have hni : nadd 0 ((i : Nat) : Int).toNat = i := by simp [ZAI]
     have hsz : ∀ c, (cn c + 1) * 8 <= 140737488355328 := fun c => by have := ZHP h i c; rw [hcn c]; omega
     rcases (show h i = 0 \/ h i = 1 \/ h i = 2 \/ h i = 3 \/ h i = 4 \/ h i = 5 \/ h i = 6 \/ h i = 7 by omega) with hc | hc | hc | hc | hc | hc | hc | hc
     ·conv => whnf
      refine zP ?_
      rw [hni, hc]
      conv => whnf
      (refine ZAe (by rw [hP]; exact follows) 60 (by kernel_rfl) ?_; conv => whnf)
      repeat' (first | (refine And.intro (by first | omega | decide | exact ⟨rfl, Nat.le_of_ble_eq_true rfl, hsz _⟩ | (simp [ZAI]; omega)) ?_; conv => whnf) | (refine And.intro ?_ ?_ <;> (conv => whnf)))
      all_goals
       (repeat' (first | (refine And.intro (by first | omega | exact ⟨rfl, Nat.le_of_ble_eq_true rfl, hsz _⟩) ?_; conv => whnf) | (refine ZGp (by omega) (by omega) ?_; conv => whnf)))
       rw [hni]
       refine ⟨(i + 1, fun j => if j = 0 then cn j + 1 else cn j), ⟨show i + 1 <= m by omega, fun j => ZC7 (c := 0) hc hcn j⟩, show m - (i + 1) < m - i by omega, ?_⟩
       refine iQ ?_
       all_goals exact (by repeat' (first | exact trivial | exact rfl | (intro _ _; exact rfl) | (intro j hj; exact ZAq (f := fun _ => [.int .i64 _]) rfl j hj) | exact Nat.le_refl _ | exact Or.inl (Or.inl (And.intro (fun h => h) rfl)) | exact Or.inl rfl | (intro t ht; exact ZB0 hc (hcn _) t) | apply And.intro))
     ·conv => whnf
      refine zP ?_
      rw [hni, hc]
      conv => whnf
      (refine ZAe (by rw [hP]; exact follows) 60 (by kernel_rfl) ?_; conv => whnf)
      repeat' (first | (refine And.intro (by first | omega | decide | exact ⟨rfl, Nat.le_of_ble_eq_true rfl, hsz _⟩ | (simp [ZAI]; omega)) ?_; conv => whnf) | (refine And.intro ?_ ?_ <;> (conv => whnf)))
      all_goals
       (repeat' (first | (refine And.intro (by first | omega | exact ⟨rfl, Nat.le_of_ble_eq_true rfl, hsz _⟩) ?_; conv => whnf) | (refine ZGp (by omega) (by omega) ?_; conv => whnf)))
       rw [hni]
       refine ⟨(i + 1, fun j => if j = 1 then cn j + 1 else cn j), ⟨show i + 1 <= m by omega, fun j => ZC7 (c := 1) hc hcn j⟩, show m - (i + 1) < m - i by omega, ?_⟩
       refine iQ ?_
       all_goals exact (by repeat' (first | exact trivial | exact rfl | (intro _ _; exact rfl) | (intro j hj; exact ZAq (f := fun _ => [.int .i64 _]) rfl j hj) | exact Nat.le_refl _ | exact Or.inl (Or.inl (And.intro (fun h => h) rfl)) | exact Or.inl rfl | (intro t ht; exact ZB0 hc (hcn _) t) | apply And.intro))
     ·conv => whnf
      refine zP ?_
      rw [hni, hc]
      conv => whnf
      (refine ZAe (by rw [hP]; exact follows) 60 (by kernel_rfl) ?_; conv => whnf)
      repeat' (first | (refine And.intro (by first | omega | decide | exact ⟨rfl, Nat.le_of_ble_eq_true rfl, hsz _⟩ | (simp [ZAI]; omega)) ?_; conv => whnf) | (refine And.intro ?_ ?_ <;> (conv => whnf)))
      all_goals
       (repeat' (first | (refine And.intro (by first | omega | exact ⟨rfl, Nat.le_of_ble_eq_true rfl, hsz _⟩) ?_; conv => whnf) | (refine ZGp (by omega) (by omega) ?_; conv => whnf)))
       rw [hni]
       refine ⟨(i + 1, fun j => if j = 2 then cn j + 1 else cn j), ⟨show i + 1 <= m by omega, fun j => ZC7 (c := 2) hc hcn j⟩, show m - (i + 1) < m - i by omega, ?_⟩
       refine iQ ?_
       all_goals exact (by repeat' (first | exact trivial | exact rfl | (intro _ _; exact rfl) | (intro j hj; exact ZAq (f := fun _ => [.int .i64 _]) rfl j hj) | exact Nat.le_refl _ | exact Or.inl (Or.inl (And.intro (fun h => h) rfl)) | exact Or.inl rfl | (intro t ht; exact ZB0 hc (hcn _) t) | apply And.intro))
     ·conv => whnf
      refine zP ?_
      rw [hni, hc]
      conv => whnf
      (refine ZAe (by rw [hP]; exact follows) 60 (by kernel_rfl) ?_; conv => whnf)
      repeat' (first | (refine And.intro (by first | omega | decide | exact ⟨rfl, Nat.le_of_ble_eq_true rfl, hsz _⟩ | (simp [ZAI]; omega)) ?_; conv => whnf) | (refine And.intro ?_ ?_ <;> (conv => whnf)))
      all_goals
       (repeat' (first | (refine And.intro (by first | omega | exact ⟨rfl, Nat.le_of_ble_eq_true rfl, hsz _⟩) ?_; conv => whnf) | (refine ZGp (by omega) (by omega) ?_; conv => whnf)))
       rw [hni]
       refine ⟨(i + 1, fun j => if j = 3 then cn j + 1 else cn j), ⟨show i + 1 <= m by omega, fun j => ZC7 (c := 3) hc hcn j⟩, show m - (i + 1) < m - i by omega, ?_⟩
       refine iQ ?_
       all_goals exact (by repeat' (first | exact trivial | exact rfl | (intro _ _; exact rfl) | (intro j hj; exact ZAq (f := fun _ => [.int .i64 _]) rfl j hj) | exact Nat.le_refl _ | exact Or.inl (Or.inl (And.intro (fun h => h) rfl)) | exact Or.inl rfl | (intro t ht; exact ZB0 hc (hcn _) t) | apply And.intro))
     ·conv => whnf
      refine zP ?_
      rw [hni, hc]
      conv => whnf
      (refine ZAe (by rw [hP]; exact follows) 60 (by kernel_rfl) ?_; conv => whnf)
      repeat' (first | (refine And.intro (by first | omega | decide | exact ⟨rfl, Nat.le_of_ble_eq_true rfl, hsz _⟩ | (simp [ZAI]; omega)) ?_; conv => whnf) | (refine And.intro ?_ ?_ <;> (conv => whnf)))
      all_goals
       (repeat' (first | (refine And.intro (by first | omega | exact ⟨rfl, Nat.le_of_ble_eq_true rfl, hsz _⟩) ?_; conv => whnf) | (refine ZGp (by omega) (by omega) ?_; conv => whnf)))
       rw [hni]
       refine ⟨(i + 1, fun j => if j = 4 then cn j + 1 else cn j), ⟨show i + 1 <= m by omega, fun j => ZC7 (c := 4) hc hcn j⟩, show m - (i + 1) < m - i by omega, ?_⟩
       refine iQ ?_
       all_goals exact (by repeat' (first | exact trivial | exact rfl | (intro _ _; exact rfl) | (intro j hj; exact ZAq (f := fun _ => [.int .i64 _]) rfl j hj) | exact Nat.le_refl _ | exact Or.inl (Or.inl (And.intro (fun h => h) rfl)) | exact Or.inl rfl | (intro t ht; exact ZB0 hc (hcn _) t) | apply And.intro))
     ·conv => whnf
      refine zP ?_
      rw [hni, hc]
      conv => whnf
      (refine ZAe (by rw [hP]; exact follows) 60 (by kernel_rfl) ?_; conv => whnf)
      repeat' (first | (refine And.intro (by first | omega | decide | exact ⟨rfl, Nat.le_of_ble_eq_true rfl, hsz _⟩ | (simp [ZAI]; omega)) ?_; conv => whnf) | (refine And.intro ?_ ?_ <;> (conv => whnf)))
      all_goals
       (repeat' (first | (refine And.intro (by first | omega | exact ⟨rfl, Nat.le_of_ble_eq_true rfl, hsz _⟩) ?_; conv => whnf) | (refine ZGp (by omega) (by omega) ?_; conv => whnf)))
       rw [hni]
       refine ⟨(i + 1, fun j => if j = 5 then cn j + 1 else cn j), ⟨show i + 1 <= m by omega, fun j => ZC7 (c := 5) hc hcn j⟩, show m - (i + 1) < m - i by omega, ?_⟩
       refine iQ ?_
       all_goals exact (by repeat' (first | exact trivial | exact rfl | (intro _ _; exact rfl) | (intro j hj; exact ZAq (f := fun _ => [.int .i64 _]) rfl j hj) | exact Nat.le_refl _ | exact Or.inl (Or.inl (And.intro (fun h => h) rfl)) | exact Or.inl rfl | (intro t ht; exact ZB0 hc (hcn _) t) | apply And.intro))
     ·conv => whnf
      refine zP ?_
      rw [hni, hc]
      conv => whnf
      (refine ZAe (by rw [hP]; exact follows) 60 (by kernel_rfl) ?_; conv => whnf)
      repeat' (first | (refine And.intro (by first | omega | decide | exact ⟨rfl, Nat.le_of_ble_eq_true rfl, hsz _⟩ | (simp [ZAI]; omega)) ?_; conv => whnf) | (refine And.intro ?_ ?_ <;> (conv => whnf)))
      all_goals
       (repeat' (first | (refine And.intro (by first | omega | exact ⟨rfl, Nat.le_of_ble_eq_true rfl, hsz _⟩) ?_; conv => whnf) | (refine ZGp (by omega) (by omega) ?_; conv => whnf)))
       rw [hni]
       refine ⟨(i + 1, fun j => if j = 6 then cn j + 1 else cn j), ⟨show i + 1 <= m by omega, fun j => ZC7 (c := 6) hc hcn j⟩, show m - (i + 1) < m - i by omega, ?_⟩
       refine iQ ?_
       all_goals exact (by repeat' (first | exact trivial | exact rfl | (intro _ _; exact rfl) | (intro j hj; exact ZAq (f := fun _ => [.int .i64 _]) rfl j hj) | exact Nat.le_refl _ | exact Or.inl (Or.inl (And.intro (fun h => h) rfl)) | exact Or.inl rfl | (intro t ht; exact ZB0 hc (hcn _) t) | apply And.intro))
     ·conv => whnf
      refine zP ?_
      rw [hni, hc]
      conv => whnf
      (refine ZAe (by rw [hP]; exact follows) 60 (by kernel_rfl) ?_; conv => whnf)
      repeat' (first | (refine And.intro (by first | omega | decide | exact ⟨rfl, Nat.le_of_ble_eq_true rfl, hsz _⟩ | (simp [ZAI]; omega)) ?_; conv => whnf) | (refine And.intro ?_ ?_ <;> (conv => whnf)))
      all_goals
       (repeat' (first | (refine And.intro (by first | omega | exact ⟨rfl, Nat.le_of_ble_eq_true rfl, hsz _⟩) ?_; conv => whnf) | (refine ZGp (by omega) (by omega) ?_; conv => whnf)))
       rw [hni]
       refine ⟨(i + 1, fun j => if j = 7 then cn j + 1 else cn j), ⟨show i + 1 <= m by omega, fun j => ZC7 (c := 7) hc hcn j⟩, show m - (i + 1) < m - i by omega, ?_⟩
       refine iQ ?_
       all_goals exact (by repeat' (first | exact trivial | exact rfl | (intro _ _; exact rfl) | (intro j hj; exact ZAq (f := fun _ => [.int .i64 _]) rfl j hj) | exact Nat.le_refl _ | exact Or.inl (Or.inl (And.intro (fun h => h) rfl)) | exact Or.inl rfl | (intro t ht; exact ZB0 hc (hcn _) t) | apply And.intro))
    ·replace h1 : ¬ (i : Int) < (m : Int) := h1
     obtain rfl : m = i := by omega
     have hcn64 : ∀ j, cn j <= 64 := fun j => by rw [hcn j]; exact Nat.le_trans (ZHP h m j) hm.2
     obtain rfl : cn = cnt h m := funext hcn
     generalize hcm : cnt h m = cn at *
     conv => whnf
     refine ZAf (α := Nat) (ds := []) (N := 26) (fun c => [(109, sInt .i64 (c : Int))]) []
      (fun c => [(0, some (ZBA th (l3 l cn p0 c).1 (l3 l cn p0 c).2.1 (l3 l cn p0 c).2.2)), (6, some (.st [.p 2 0 0 0, .v (.pointer none), .v (.int .i64 M), .v (.int .u32 bu), .i (inT g) 9, .io (lb cn c 0) (inT l) 18, .io (lb cn c 1) (inT l) 19, .io (lb cn c 2) (inT l) 20, .io (lb cn c 3) (inT l) 21, .io (lb cn c 4) (inT l) 22, .io (lb cn c 5) (inT l) 23, .io (lb cn c 6) (inT l) 24, .io (lb cn c 7) (inT l) 25, .s 5 4 0 m 0])), (18, some (.ob [] (OptR (lb cn c 0) (inR0 l (cn 0) (l3 l cn p0 0).1)))), (19, some (.ob [] (OptR (lb cn c 1) (inR0 l (cn 1) (l3 l cn p0 1).1)))), (20, some (.ob [] (OptR (lb cn c 2) (inR0 l (cn 2) (l3 l cn p0 2).1)))), (21, some (.ob [] (OptR (lb cn c 3) (inR0 l (cn 3) (l3 l cn p0 3).1)))), (22, some (.ob [] (OptR (lb cn c 4) (inR0 l (cn 4) (l3 l cn p0 4).1)))), (23, some (.ob [] (OptR (lb cn c 5) (inR0 l (cn 5) (l3 l cn p0 5).1)))), (24, some (.ob [] (OptR (lb cn c 6) (inR0 l (cn 6) (l3 l cn p0 6).1)))), (25, some (.ob [] (OptR (lb cn c 7) (inR0 l (cn 7) (l3 l cn p0 7).1))))])
      (fun c => c <= 8) (fun c => 8 - c) 0 (Nat.zero_le _) ?_ fun c hc8 => ?_
     ·conv => whnf
      refine Imp.trans (ZAa ((ZAQ.nothing (OptR false (inR0 l (cn 0) (l3 l cn p0 0).1)) (ZAH (ZAS _ _ _) _) (ZCV _)).trans ((ZAQ.nothing (OptR false (inR0 l (cn 1) (l3 l cn p0 1).1)) (ZAH (ZAS _ _ _) _) (ZCV _)).trans ((ZAQ.nothing (OptR false (inR0 l (cn 2) (l3 l cn p0 2).1)) (ZAH (ZAS _ _ _) _) (ZCV _)).trans ((ZAQ.nothing (OptR false (inR0 l (cn 3) (l3 l cn p0 3).1)) (ZAH (ZAS _ _ _) _) (ZCV _)).trans ((ZAQ.nothing (OptR false (inR0 l (cn 4) (l3 l cn p0 4).1)) (ZAH (ZAS _ _ _) _) (ZCV _)).trans ((ZAQ.nothing (OptR false (inR0 l (cn 5) (l3 l cn p0 5).1)) (ZAH (ZAS _ _ _) _) (ZCV _)).trans ((ZAQ.nothing (OptR false (inR0 l (cn 6) (l3 l cn p0 6).1)) (ZAH (ZAS _ _ _) _) (ZCV _)).trans ((ZAQ.nothing (OptR false (inR0 l (cn 7) (l3 l cn p0 7).1)) (ZAH (ZAS _ _ _) _) (ZCV _)).trans ((ZAQ.cell 6 5 (.io false (inT l) 18) (x := .v .nilIface) rfl rfl (fun _ => rfl) (fun _ _ => (Nat.le_of_ble_eq_true rfl : 19 <= 26))).trans ((ZAQ.cell 6 6 (.io false (inT l) 19) (x := .v .nilIface) rfl rfl (fun _ => rfl) (fun _ _ => (Nat.le_of_ble_eq_true rfl : 20 <= 26))).trans ((ZAQ.cell 6 7 (.io false (inT l) 20) (x := .v .nilIface) rfl rfl (fun _ => rfl) (fun _ _ => (Nat.le_of_ble_eq_true rfl : 21 <= 26))).trans ((ZAQ.cell 6 8 (.io false (inT l) 21) (x := .v .nilIface) rfl rfl (fun _ => rfl) (fun _ _ => (Nat.le_of_ble_eq_true rfl : 22 <= 26))).trans ((ZAQ.cell 6 9 (.io false (inT l) 22) (x := .v .nilIface) rfl rfl (fun _ => rfl) (fun _ _ => (Nat.le_of_ble_eq_true rfl : 23 <= 26))).trans ((ZAQ.cell 6 10 (.io false (inT l) 23) (x := .v .nilIface) rfl rfl (fun _ => rfl) (fun _ _ => (Nat.le_of_ble_eq_true rfl : 24 <= 26))).trans ((ZAQ.cell 6 11 (.io false (inT l) 24) (x := .v .nilIface) rfl rfl (fun _ => rfl) (fun _ _ => (Nat.le_of_ble_eq_true rfl : 25 <= 26))).trans (ZAQ.cell 6 12 (.io false (inT l) 25) (x := .v .nilIface) rfl rfl (fun _ => rfl) (fun _ _ => (Nat.le_of_ble_eq_true rfl : 26 <= 26))))))))))))))))))) ?_
      refine ZAR hA [0, 1, 2, 3, 4, 5, 6, 7, 8, 9, 10, 11, 12, 13, 14, 15, 16, 17, 18, 19, 20, 21, 22, 23, 24, 25] rfl rfl rfl ZAj ?_ rfl
      exact ZAA
     rcases (show c = 0 \/ c = 1 \/ c = 2 \/ c = 3 \/ c = 4 \/ c = 5 \/ c = 6 \/ c = 7 \/ c = 8 by omega) with rfl | rfl | rfl | rfl | rfl | rfl | rfl | rfl | rfl
     ·have hin := ZCf l hl th (l3 l cn p0 0).1 (l3 l cn p0 0).2.1 (l3 l cn p0 0).2.2 (fun _ => 0) (cn 0)
      have hMc := ZGU (l := l) (p0 := p0) hcn64 0
      cases hb : Nat.blt 0 (cn 0) with
      | true =>
       have hb1 : 0 < cn 0 := Nat.le_of_ble_eq_true hb
       have hs3 := ZEN (l := l) (p0 := p0) hb
       specialize hin (by omega) ⟨hb1, hcn64 0⟩ (ZCA (by decide) _)
       conv => whnf
       refine zJ ?_
       refine ZAb (m := 8) (e := 22) (by rw [hP]; kernel_rfl) (by rw [hP]; kernel_rfl) (by rw [hP]; kernel_rfl) rfl (c := 0) rfl (by decide) rfl ?_
       conv => whnf
       refine dsplit (fun h1 => ?_) (fun h1 => absurd (show (0 : Int) < ((cn 0 : Nat) : Int) by omega) h1)
       conv => whnf
       (refine ZAe (by rw [hP]; exact follows) 60 (by kernel_rfl) ?_; conv => whnf)
       repeat' (first | (refine And.intro (by first | omega | decide | (simp [ZAI]; omega)) ?_; conv => whnf) | (refine And.intro ?_ ?_ <;> (conv => whnf)))
       all_goals refine cA (hin) ?_
       repeat' (first | (refine And.intro (by first | omega | decide | (simp [ZAI]; omega)) ?_; conv => whnf) | (refine And.intro ?_ ?_ <;> (conv => whnf)))
       all_goals
        refine zP ?_
        refine ⟨1, by omega, by omega, ?_⟩
        conv => whnf
        refine Imp.trans (ZAa (ZAQ.cell 6 5 (.io (Nat.blt 0 (cn 0)) (inT l) 26) rfl rfl (fun _ => by rw [hb]; rfl) (fun _ hh => hh))) ?_
        refine ZAR hA [0, 1, 2, 3, 4, 5, 6, 7, 8, 9, 10, 11, 12, 13, 14, 15, 16, 17, 26, 19, 20, 21, 22, 23, 24, 25] rfl rfl rfl ZAj ?_ rfl
        refine ⟨⟨rfl, .inl (by first | (rw [hs3]; done) | (rw [hs3]; rfl))⟩, rfl, ⟨rfl, .inr ⟨ZAH (ZAS _ _ _), fun ls lc F w hh => ZA3 hb hh⟩⟩, ⟨rfl, .inl rfl⟩, ⟨rfl, .inl rfl⟩, ⟨rfl, .inl rfl⟩, ⟨rfl, .inl rfl⟩, ⟨rfl, .inl rfl⟩, ⟨rfl, .inl rfl⟩, ⟨rfl, .inl rfl⟩, ZAA⟩
      | false =>
       have hb1 : ¬ 0 < cn 0 := fun hh => by have h2 : Nat.blt 0 (cn 0) = true := Nat.ble_eq_true_of_le hh; rw [h2] at hb; cases hb
       have hs3 := ZG5 (l := l) (p0 := p0) hb
       conv => whnf
       refine zJ ?_
       refine ZAb (m := 8) (e := 22) (by rw [hP]; kernel_rfl) (by rw [hP]; kernel_rfl) (by rw [hP]; kernel_rfl) rfl (c := 0) rfl (by decide) rfl ?_
       conv => whnf
       refine dsplit (fun h1 => absurd (show (0 : Int) < ((cn 0 : Nat) : Int) from h1) (by omega)) (fun h1 => ?_)
       conv => whnf
       refine zP ?_
       refine ⟨1, by omega, by omega, ?_⟩
       conv => whnf
       refine Imp.trans (ZAa (ZAQ.cell 6 5 (.io (Nat.blt 0 (cn 0)) (inT l) 18) rfl rfl (fun _ => by rw [hb]; rfl) (fun _ hh => hh))) ?_
       refine ZAR hA [0, 1, 2, 3, 4, 5, 6, 7, 8, 9, 10, 11, 12, 13, 14, 15, 16, 17, 18, 19, 20, 21, 22, 23, 24, 25] rfl rfl rfl ZAj ?_ rfl
       refine ⟨⟨rfl, .inl (by first | (rw [hs3]; done) | (rw [hs3]; rfl))⟩, rfl, ⟨rfl, .inr ⟨ZAH (ZAS _ _ _), fun ls lc F w hh => ZDH hb hh⟩⟩, ⟨rfl, .inl rfl⟩, ⟨rfl, .inl rfl⟩, ⟨rfl, .inl rfl⟩, ⟨rfl, .inl rfl⟩, ⟨rfl, .inl rfl⟩, ⟨rfl, .inl rfl⟩, ⟨rfl, .inl rfl⟩, ZAA⟩
     ·have hin := ZCf l hl th (l3 l cn p0 1).1 (l3 l cn p0 1).2.1 (l3 l cn p0 1).2.2 (fun _ => 1) (cn 1)
      have hMc := ZGU (l := l) (p0 := p0) hcn64 1
      cases hb : Nat.blt 0 (cn 1) with
      | true =>
       have hb1 : 0 < cn 1 := Nat.le_of_ble_eq_true hb
       have hs3 := ZEN (l := l) (p0 := p0) hb
       specialize hin (by omega) ⟨hb1, hcn64 1⟩ (ZCA (by decide) _)
       conv => whnf
       refine zJ ?_
       refine ZAb (m := 8) (e := 22) (by rw [hP]; kernel_rfl) (by rw [hP]; kernel_rfl) (by rw [hP]; kernel_rfl) rfl (c := 1) rfl (by decide) rfl ?_
       conv => whnf
       refine dsplit (fun h1 => ?_) (fun h1 => absurd (show (0 : Int) < ((cn 1 : Nat) : Int) by omega) h1)
       conv => whnf
       (refine ZAe (by rw [hP]; exact follows) 60 (by kernel_rfl) ?_; conv => whnf)
       repeat' (first | (refine And.intro (by first | omega | decide | (simp [ZAI]; omega)) ?_; conv => whnf) | (refine And.intro ?_ ?_ <;> (conv => whnf)))
       all_goals refine cA (hin) ?_
       repeat' (first | (refine And.intro (by first | omega | decide | (simp [ZAI]; omega)) ?_; conv => whnf) | (refine And.intro ?_ ?_ <;> (conv => whnf)))
       all_goals
        refine zP ?_
        refine ⟨2, by omega, by omega, ?_⟩
        conv => whnf
        refine Imp.trans (ZAa (ZAQ.cell 6 6 (.io (Nat.blt 0 (cn 1)) (inT l) 26) rfl rfl (fun _ => by rw [hb]; rfl) (fun _ hh => hh))) ?_
        refine ZAR hA [0, 1, 2, 3, 4, 5, 6, 7, 8, 9, 10, 11, 12, 13, 14, 15, 16, 17, 18, 26, 20, 21, 22, 23, 24, 25] rfl rfl rfl ZAj ?_ rfl
        refine ⟨⟨rfl, .inl (by first | (rw [hs3]; done) | (rw [hs3]; rfl))⟩, rfl, ⟨rfl, .inl rfl⟩, ⟨rfl, .inr ⟨ZAH (ZAS _ _ _), fun ls lc F w hh => ZA3 hb hh⟩⟩, ⟨rfl, .inl rfl⟩, ⟨rfl, .inl rfl⟩, ⟨rfl, .inl rfl⟩, ⟨rfl, .inl rfl⟩, ⟨rfl, .inl rfl⟩, ⟨rfl, .inl rfl⟩, ZAA⟩
      | false =>
       have hb1 : ¬ 0 < cn 1 := fun hh => by have h2 : Nat.blt 0 (cn 1) = true := Nat.ble_eq_true_of_le hh; rw [h2] at hb; cases hb
       have hs3 := ZG5 (l := l) (p0 := p0) hb
       conv => whnf
       refine zJ ?_
       refine ZAb (m := 8) (e := 22) (by rw [hP]; kernel_rfl) (by rw [hP]; kernel_rfl) (by rw [hP]; kernel_rfl) rfl (c := 1) rfl (by decide) rfl ?_
       conv => whnf
       refine dsplit (fun h1 => absurd (show (0 : Int) < ((cn 1 : Nat) : Int) from h1) (by omega)) (fun h1 => ?_)
       conv => whnf
       refine zP ?_
       refine ⟨2, by omega, by omega, ?_⟩
       conv => whnf
       refine Imp.trans (ZAa (ZAQ.cell 6 6 (.io (Nat.blt 0 (cn 1)) (inT l) 19) rfl rfl (fun _ => by rw [hb]; rfl) (fun _ hh => hh))) ?_
       refine ZAR hA [0, 1, 2, 3, 4, 5, 6, 7, 8, 9, 10, 11, 12, 13, 14, 15, 16, 17, 18, 19, 20, 21, 22, 23, 24, 25] rfl rfl rfl ZAj ?_ rfl
       refine ⟨⟨rfl, .inl (by first | (rw [hs3]; done) | (rw [hs3]; rfl))⟩, rfl, ⟨rfl, .inl rfl⟩, ⟨rfl, .inr ⟨ZAH (ZAS _ _ _), fun ls lc F w hh => ZDH hb hh⟩⟩, ⟨rfl, .inl rfl⟩, ⟨rfl, .inl rfl⟩, ⟨rfl, .inl rfl⟩, ⟨rfl, .inl rfl⟩, ⟨rfl, .inl rfl⟩, ⟨rfl, .inl rfl⟩, ZAA⟩
     ·have hin := ZCf l hl th (l3 l cn p0 2).1 (l3 l cn p0 2).2.1 (l3 l cn p0 2).2.2 (fun _ => 2) (cn 2)
      have hMc := ZGU (l := l) (p0 := p0) hcn64 2
      cases hb : Nat.blt 0 (cn 2) with
      | true =>
       have hb1 : 0 < cn 2 := Nat.le_of_ble_eq_true hb
       have hs3 := ZEN (l := l) (p0 := p0) hb
       specialize hin (by omega) ⟨hb1, hcn64 2⟩ (ZCA (by decide) _)
       conv => whnf
       refine zJ ?_
       refine ZAb (m := 8) (e := 22) (by rw [hP]; kernel_rfl) (by rw [hP]; kernel_rfl) (by rw [hP]; kernel_rfl) rfl (c := 2) rfl (by decide) rfl ?_
       conv => whnf
       refine dsplit (fun h1 => ?_) (fun h1 => absurd (show (0 : Int) < ((cn 2 : Nat) : Int) by omega) h1)
       conv => whnf
       (refine ZAe (by rw [hP]; exact follows) 60 (by kernel_rfl) ?_; conv => whnf)
       repeat' (first | (refine And.intro (by first | omega | decide | (simp [ZAI]; omega)) ?_; conv => whnf) | (refine And.intro ?_ ?_ <;> (conv => whnf)))
       all_goals refine cA (hin) ?_
       repeat' (first | (refine And.intro (by first | omega | decide | (simp [ZAI]; omega)) ?_; conv => whnf) | (refine And.intro ?_ ?_ <;> (conv => whnf)))
       all_goals
        refine zP ?_
        refine ⟨3, by omega, by omega, ?_⟩
        conv => whnf
        refine Imp.trans (ZAa (ZAQ.cell 6 7 (.io (Nat.blt 0 (cn 2)) (inT l) 26) rfl rfl (fun _ => by rw [hb]; rfl) (fun _ hh => hh))) ?_
        refine ZAR hA [0, 1, 2, 3, 4, 5, 6, 7, 8, 9, 10, 11, 12, 13, 14, 15, 16, 17, 18, 19, 26, 21, 22, 23, 24, 25] rfl rfl rfl ZAj ?_ rfl
        refine ⟨⟨rfl, .inl (by first | (rw [hs3]; done) | (rw [hs3]; rfl))⟩, rfl, ⟨rfl, .inl rfl⟩, ⟨rfl, .inl rfl⟩, ⟨rfl, .inr ⟨ZAH (ZAS _ _ _), fun ls lc F w hh => ZA3 hb hh⟩⟩, ⟨rfl, .inl rfl⟩, ⟨rfl, .inl rfl⟩, ⟨rfl, .inl rfl⟩, ⟨rfl, .inl rfl⟩, ⟨rfl, .inl rfl⟩, ZAA⟩
      | false =>
       have hb1 : ¬ 0 < cn 2 := fun hh => by have h2 : Nat.blt 0 (cn 2) = true := Nat.ble_eq_true_of_le hh; rw [h2] at hb; cases hb
       have hs3 := ZG5 (l := l) (p0 := p0) hb
       conv => whnf
       refine zJ ?_
       refine ZAb (m := 8) (e := 22) (by rw [hP]; kernel_rfl) (by rw [hP]; kernel_rfl) (by rw [hP]; kernel_rfl) rfl (c := 2) rfl (by decide) rfl ?_
       conv => whnf
       refine dsplit (fun h1 => absurd (show (0 : Int) < ((cn 2 : Nat) : Int) from h1) (by omega)) (fun h1 => ?_)
       conv => whnf
       refine zP ?_
       refine ⟨3, by omega, by omega, ?_⟩
       conv => whnf
       refine Imp.trans (ZAa (ZAQ.cell 6 7 (.io (Nat.blt 0 (cn 2)) (inT l) 20) rfl rfl (fun _ => by rw [hb]; rfl) (fun _ hh => hh))) ?_
       refine ZAR hA [0, 1, 2, 3, 4, 5, 6, 7, 8, 9, 10, 11, 12, 13, 14, 15, 16, 17, 18, 19, 20, 21, 22, 23, 24, 25] rfl rfl rfl ZAj ?_ rfl
       refine ⟨⟨rfl, .inl (by first | (rw [hs3]; done) | (rw [hs3]; rfl))⟩, rfl, ⟨rfl, .inl rfl⟩, ⟨rfl, .inl rfl⟩, ⟨rfl, .inr ⟨ZAH (ZAS _ _ _), fun ls lc F w hh => ZDH hb hh⟩⟩, ⟨rfl, .inl rfl⟩, ⟨rfl, .inl rfl⟩, ⟨rfl, .inl rfl⟩, ⟨rfl, .inl rfl⟩, ⟨rfl, .inl rfl⟩, ZAA⟩
     ·have hin := ZCf l hl th (l3 l cn p0 3).1 (l3 l cn p0 3).2.1 (l3 l cn p0 3).2.2 (fun _ => 3) (cn 3)
      have hMc := ZGU (l := l) (p0 := p0) hcn64 3
      cases hb : Nat.blt 0 (cn 3) with
      | true =>
       have hb1 : 0 < cn 3 := Nat.le_of_ble_eq_true hb
       have hs3 := ZEN (l := l) (p0 := p0) hb
       specialize hin (by omega) ⟨hb1, hcn64 3⟩ (ZCA (by decide) _)
       conv => whnf
       refine zJ ?_
       refine ZAb (m := 8) (e := 22) (by rw [hP]; kernel_rfl) (by rw [hP]; kernel_rfl) (by rw [hP]; kernel_rfl) rfl (c := 3) rfl (by decide) rfl ?_
       conv => whnf
       refine dsplit (fun h1 => ?_) (fun h1 => absurd (show (0 : Int) < ((cn 3 : Nat) : Int) by omega) h1)
       conv => whnf
       (refine ZAe (by rw [hP]; exact follows) 60 (by kernel_rfl) ?_; conv => whnf)
       repeat' (first | (refine And.intro (by first | omega | decide | (simp [ZAI]; omega)) ?_; conv => whnf) | (refine And.intro ?_ ?_ <;> (conv => whnf)))
       all_goals refine cA (hin) ?_
       repeat' (first | (refine And.intro (by first | omega | decide | (simp [ZAI]; omega)) ?_; conv => whnf) | (refine And.intro ?_ ?_ <;> (conv => whnf)))
       all_goals
        refine zP ?_
        refine ⟨4, by omega, by omega, ?_⟩
        conv => whnf
        refine Imp.trans (ZAa (ZAQ.cell 6 8 (.io (Nat.blt 0 (cn 3)) (inT l) 26) rfl rfl (fun _ => by rw [hb]; rfl) (fun _ hh => hh))) ?_
        refine ZAR hA [0, 1, 2, 3, 4, 5, 6, 7, 8, 9, 10, 11, 12, 13, 14, 15, 16, 17, 18, 19, 20, 26, 22, 23, 24, 25] rfl rfl rfl ZAj ?_ rfl
        refine ⟨⟨rfl, .inl (by first | (rw [hs3]; done) | (rw [hs3]; rfl))⟩, rfl, ⟨rfl, .inl rfl⟩, ⟨rfl, .inl rfl⟩, ⟨rfl, .inl rfl⟩, ⟨rfl, .inr ⟨ZAH (ZAS _ _ _), fun ls lc F w hh => ZA3 hb hh⟩⟩, ⟨rfl, .inl rfl⟩, ⟨rfl, .inl rfl⟩, ⟨rfl, .inl rfl⟩, ⟨rfl, .inl rfl⟩, ZAA⟩
      | false =>
       have hb1 : ¬ 0 < cn 3 := fun hh => by have h2 : Nat.blt 0 (cn 3) = true := Nat.ble_eq_true_of_le hh; rw [h2] at hb; cases hb
       have hs3 := ZG5 (l := l) (p0 := p0) hb
       conv => whnf
       refine zJ ?_
       refine ZAb (m := 8) (e := 22) (by rw [hP]; kernel_rfl) (by rw [hP]; kernel_rfl) (by rw [hP]; kernel_rfl) rfl (c := 3) rfl (by decide) rfl ?_
       conv => whnf
       refine dsplit (fun h1 => absurd (show (0 : Int) < ((cn 3 : Nat) : Int) from h1) (by omega)) (fun h1 => ?_)
       conv => whnf
       refine zP ?_
       refine ⟨4, by omega, by omega, ?_⟩
       conv => whnf
       refine Imp.trans (ZAa (ZAQ.cell 6 8 (.io (Nat.blt 0 (cn 3)) (inT l) 21) rfl rfl (fun _ => by rw [hb]; rfl) (fun _ hh => hh))) ?_
       refine ZAR hA [0, 1, 2, 3, 4, 5, 6, 7, 8, 9, 10, 11, 12, 13, 14, 15, 16, 17, 18, 19, 20, 21, 22, 23, 24, 25] rfl rfl rfl ZAj ?_ rfl
       refine ⟨⟨rfl, .inl (by first | (rw [hs3]; done) | (rw [hs3]; rfl))⟩, rfl, ⟨rfl, .inl rfl⟩, ⟨rfl, .inl rfl⟩, ⟨rfl, .inl rfl⟩, ⟨rfl, .inr ⟨ZAH (ZAS _ _ _), fun ls lc F w hh => ZDH hb hh⟩⟩, ⟨rfl, .inl rfl⟩, ⟨rfl, .inl rfl⟩, ⟨rfl, .inl rfl⟩, ⟨rfl, .inl rfl⟩, ZAA⟩
     ·have hin := ZCf l hl th (l3 l cn p0 4).1 (l3 l cn p0 4).2.1 (l3 l cn p0 4).2.2 (fun _ => 4) (cn 4)
      have hMc := ZGU (l := l) (p0 := p0) hcn64 4
      cases hb : Nat.blt 0 (cn 4) with
      | true =>
       have hb1 : 0 < cn 4 := Nat.le_of_ble_eq_true hb
       have hs3 := ZEN (l := l) (p0 := p0) hb
       specialize hin (by omega) ⟨hb1, hcn64 4⟩ (ZCA (by decide) _)
       conv => whnf
       refine zJ ?_
       refine ZAb (m := 8) (e := 22) (by rw [hP]; kernel_rfl) (by rw [hP]; kernel_rfl) (by rw [hP]; kernel_rfl) rfl (c := 4) rfl (by decide) rfl ?_
       conv => whnf
       refine dsplit (fun h1 => ?_) (fun h1 => absurd (show (0 : Int) < ((cn 4 : Nat) : Int) by omega) h1)
       conv => whnf
       (refine ZAe (by rw [hP]; exact follows) 60 (by kernel_rfl) ?_; conv => whnf)
       repeat' (first | (refine And.intro (by first | omega | decide | (simp [ZAI]; omega)) ?_; conv => whnf) | (refine And.intro ?_ ?_ <;> (conv => whnf)))
       all_goals refine cA (hin) ?_
       repeat' (first | (refine And.intro (by first | omega | decide | (simp [ZAI]; omega)) ?_; conv => whnf) | (refine And.intro ?_ ?_ <;> (conv => whnf)))
       all_goals
        refine zP ?_
        refine ⟨5, by omega, by omega, ?_⟩
        conv => whnf
        refine Imp.trans (ZAa (ZAQ.cell 6 9 (.io (Nat.blt 0 (cn 4)) (inT l) 26) rfl rfl (fun _ => by rw [hb]; rfl) (fun _ hh => hh))) ?_
        refine ZAR hA [0, 1, 2, 3, 4, 5, 6, 7, 8, 9, 10, 11, 12, 13, 14, 15, 16, 17, 18, 19, 20, 21, 26, 23, 24, 25] rfl rfl rfl ZAj ?_ rfl
        refine ⟨⟨rfl, .inl (by first | (rw [hs3]; done) | (rw [hs3]; rfl))⟩, rfl, ⟨rfl, .inl rfl⟩, ⟨rfl, .inl rfl⟩, ⟨rfl, .inl rfl⟩, ⟨rfl, .inl rfl⟩, ⟨rfl, .inr ⟨ZAH (ZAS _ _ _), fun ls lc F w hh => ZA3 hb hh⟩⟩, ⟨rfl, .inl rfl⟩, ⟨rfl, .inl rfl⟩, ⟨rfl, .inl rfl⟩, ZAA⟩
      | false =>
       have hb1 : ¬ 0 < cn 4 := fun hh => by have h2 : Nat.blt 0 (cn 4) = true := Nat.ble_eq_true_of_le hh; rw [h2] at hb; cases hb
       have hs3 := ZG5 (l := l) (p0 := p0) hb
       conv => whnf
       refine zJ ?_
       refine ZAb (m := 8) (e := 22) (by rw [hP]; kernel_rfl) (by rw [hP]; kernel_rfl) (by rw [hP]; kernel_rfl) rfl (c := 4) rfl (by decide) rfl ?_
       conv => whnf
       refine dsplit (fun h1 => absurd (show (0 : Int) < ((cn 4 : Nat) : Int) from h1) (by omega)) (fun h1 => ?_)
       conv => whnf
       refine zP ?_
       refine ⟨5, by omega, by omega, ?_⟩
       conv => whnf
       refine Imp.trans (ZAa (ZAQ.cell 6 9 (.io (Nat.blt 0 (cn 4)) (inT l) 22) rfl rfl (fun _ => by rw [hb]; rfl) (fun _ hh => hh))) ?_
       refine ZAR hA [0, 1, 2, 3, 4, 5, 6, 7, 8, 9, 10, 11, 12, 13, 14, 15, 16, 17, 18, 19, 20, 21, 22, 23, 24, 25] rfl rfl rfl ZAj ?_ rfl
       refine ⟨⟨rfl, .inl (by first | (rw [hs3]; done) | (rw [hs3]; rfl))⟩, rfl, ⟨rfl, .inl rfl⟩, ⟨rfl, .inl rfl⟩, ⟨rfl, .inl rfl⟩, ⟨rfl, .inl rfl⟩, ⟨rfl, .inr ⟨ZAH (ZAS _ _ _), fun ls lc F w hh => ZDH hb hh⟩⟩, ⟨rfl, .inl rfl⟩, ⟨rfl, .inl rfl⟩, ⟨rfl, .inl rfl⟩, ZAA⟩
     ·have hin := ZCf l hl th (l3 l cn p0 5).1 (l3 l cn p0 5).2.1 (l3 l cn p0 5).2.2 (fun _ => 5) (cn 5)
      have hMc := ZGU (l := l) (p0 := p0) hcn64 5
      cases hb : Nat.blt 0 (cn 5) with
      | true =>
       have hb1 : 0 < cn 5 := Nat.le_of_ble_eq_true hb
       have hs3 := ZEN (l := l) (p0 := p0) hb
       specialize hin (by omega) ⟨hb1, hcn64 5⟩ (ZCA (by decide) _)
       conv => whnf
       refine zJ ?_
       refine ZAb (m := 8) (e := 22) (by rw [hP]; kernel_rfl) (by rw [hP]; kernel_rfl) (by rw [hP]; kernel_rfl) rfl (c := 5) rfl (by decide) rfl ?_
       conv => whnf
       refine dsplit (fun h1 => ?_) (fun h1 => absurd (show (0 : Int) < ((cn 5 : Nat) : Int) by omega) h1)
       conv => whnf
       (refine ZAe (by rw [hP]; exact follows) 60 (by kernel_rfl) ?_; conv => whnf)
       repeat' (first | (refine And.intro (by first | omega | decide | (simp [ZAI]; omega)) ?_; conv => whnf) | (refine And.intro ?_ ?_ <;> (conv => whnf)))
       all_goals refine cA (hin) ?_
       repeat' (first | (refine And.intro (by first | omega | decide | (simp [ZAI]; omega)) ?_; conv => whnf) | (refine And.intro ?_ ?_ <;> (conv => whnf)))
       all_goals
        refine zP ?_
        refine ⟨6, by omega, by omega, ?_⟩
        conv => whnf
        refine Imp.trans (ZAa (ZAQ.cell 6 10 (.io (Nat.blt 0 (cn 5)) (inT l) 26) rfl rfl (fun _ => by rw [hb]; rfl) (fun _ hh => hh))) ?_
        refine ZAR hA [0, 1, 2, 3, 4, 5, 6, 7, 8, 9, 10, 11, 12, 13, 14, 15, 16, 17, 18, 19, 20, 21, 22, 26, 24, 25] rfl rfl rfl ZAj ?_ rfl
        refine ⟨⟨rfl, .inl (by first | (rw [hs3]; done) | (rw [hs3]; rfl))⟩, rfl, ⟨rfl, .inl rfl⟩, ⟨rfl, .inl rfl⟩, ⟨rfl, .inl rfl⟩, ⟨rfl, .inl rfl⟩, ⟨rfl, .inl rfl⟩, ⟨rfl, .inr ⟨ZAH (ZAS _ _ _), fun ls lc F w hh => ZA3 hb hh⟩⟩, ⟨rfl, .inl rfl⟩, ⟨rfl, .inl rfl⟩, ZAA⟩
      | false =>
       have hb1 : ¬ 0 < cn 5 := fun hh => by have h2 : Nat.blt 0 (cn 5) = true := Nat.ble_eq_true_of_le hh; rw [h2] at hb; cases hb
       have hs3 := ZG5 (l := l) (p0 := p0) hb
       conv => whnf
       refine zJ ?_
       refine ZAb (m := 8) (e := 22) (by rw [hP]; kernel_rfl) (by rw [hP]; kernel_rfl) (by rw [hP]; kernel_rfl) rfl (c := 5) rfl (by decide) rfl ?_
       conv => whnf
       refine dsplit (fun h1 => absurd (show (0 : Int) < ((cn 5 : Nat) : Int) from h1) (by omega)) (fun h1 => ?_)
       conv => whnf
       refine zP ?_
       refine ⟨6, by omega, by omega, ?_⟩
       conv => whnf
       refine Imp.trans (ZAa (ZAQ.cell 6 10 (.io (Nat.blt 0 (cn 5)) (inT l) 23) rfl rfl (fun _ => by rw [hb]; rfl) (fun _ hh => hh))) ?_
       refine ZAR hA [0, 1, 2, 3, 4, 5, 6, 7, 8, 9, 10, 11, 12, 13, 14, 15, 16, 17, 18, 19, 20, 21, 22, 23, 24, 25] rfl rfl rfl ZAj ?_ rfl
       refine ⟨⟨rfl, .inl (by first | (rw [hs3]; done) | (rw [hs3]; rfl))⟩, rfl, ⟨rfl, .inl rfl⟩, ⟨rfl, .inl rfl⟩, ⟨rfl, .inl rfl⟩, ⟨rfl, .inl rfl⟩, ⟨rfl, .inl rfl⟩, ⟨rfl, .inr ⟨ZAH (ZAS _ _ _), fun ls lc F w hh => ZDH hb hh⟩⟩, ⟨rfl, .inl rfl⟩, ⟨rfl, .inl rfl⟩, ZAA⟩
     ·have hin := ZCf l hl th (l3 l cn p0 6).1 (l3 l cn p0 6).2.1 (l3 l cn p0 6).2.2 (fun _ => 6) (cn 6)
      have hMc := ZGU (l := l) (p0 := p0) hcn64 6
      cases hb : Nat.blt 0 (cn 6) with
      | true =>
       have hb1 : 0 < cn 6 := Nat.le_of_ble_eq_true hb
       have hs3 := ZEN (l := l) (p0 := p0) hb
       specialize hin (by omega) ⟨hb1, hcn64 6⟩ (ZCA (by decide) _)
       conv => whnf
       refine zJ ?_
       refine ZAb (m := 8) (e := 22) (by rw [hP]; kernel_rfl) (by rw [hP]; kernel_rfl) (by rw [hP]; kernel_rfl) rfl (c := 6) rfl (by decide) rfl ?_
       conv => whnf
       refine dsplit (fun h1 => ?_) (fun h1 => absurd (show (0 : Int) < ((cn 6 : Nat) : Int) by omega) h1)
       conv => whnf
       (refine ZAe (by rw [hP]; exact follows) 60 (by kernel_rfl) ?_; conv => whnf)
       repeat' (first | (refine And.intro (by first | omega | decide | (simp [ZAI]; omega)) ?_; conv => whnf) | (refine And.intro ?_ ?_ <;> (conv => whnf)))
       all_goals refine cA (hin) ?_
       repeat' (first | (refine And.intro (by first | omega | decide | (simp [ZAI]; omega)) ?_; conv => whnf) | (refine And.intro ?_ ?_ <;> (conv => whnf)))
       all_goals
        refine zP ?_
        refine ⟨7, by omega, by omega, ?_⟩
        conv => whnf
        refine Imp.trans (ZAa (ZAQ.cell 6 11 (.io (Nat.blt 0 (cn 6)) (inT l) 26) rfl rfl (fun _ => by rw [hb]; rfl) (fun _ hh => hh))) ?_
        refine ZAR hA [0, 1, 2, 3, 4, 5, 6, 7, 8, 9, 10, 11, 12, 13, 14, 15, 16, 17, 18, 19, 20, 21, 22, 23, 26, 25] rfl rfl rfl ZAj ?_ rfl
        refine ⟨⟨rfl, .inl (by first | (rw [hs3]; done) | (rw [hs3]; rfl))⟩, rfl, ⟨rfl, .inl rfl⟩, ⟨rfl, .inl rfl⟩, ⟨rfl, .inl rfl⟩, ⟨rfl, .inl rfl⟩, ⟨rfl, .inl rfl⟩, ⟨rfl, .inl rfl⟩, ⟨rfl, .inr ⟨ZAH (ZAS _ _ _), fun ls lc F w hh => ZA3 hb hh⟩⟩, ⟨rfl, .inl rfl⟩, ZAA⟩
      | false =>
       have hb1 : ¬ 0 < cn 6 := fun hh => by have h2 : Nat.blt 0 (cn 6) = true := Nat.ble_eq_true_of_le hh; rw [h2] at hb; cases hb
       have hs3 := ZG5 (l := l) (p0 := p0) hb
       conv => whnf
       refine zJ ?_
       refine ZAb (m := 8) (e := 22) (by rw [hP]; kernel_rfl) (by rw [hP]; kernel_rfl) (by rw [hP]; kernel_rfl) rfl (c := 6) rfl (by decide) rfl ?_
       conv => whnf
       refine dsplit (fun h1 => absurd (show (0 : Int) < ((cn 6 : Nat) : Int) from h1) (by omega)) (fun h1 => ?_)
       conv => whnf
       refine zP ?_
       refine ⟨7, by omega, by omega, ?_⟩
       conv => whnf
       refine Imp.trans (ZAa (ZAQ.cell 6 11 (.io (Nat.blt 0 (cn 6)) (inT l) 24) rfl rfl (fun _ => by rw [hb]; rfl) (fun _ hh => hh))) ?_
       refine ZAR hA [0, 1, 2, 3, 4, 5, 6, 7, 8, 9, 10, 11, 12, 13, 14, 15, 16, 17, 18, 19, 20, 21, 22, 23, 24, 25] rfl rfl rfl ZAj ?_ rfl
       refine ⟨⟨rfl, .inl (by first | (rw [hs3]; done) | (rw [hs3]; rfl))⟩, rfl, ⟨rfl, .inl rfl⟩, ⟨rfl, .inl rfl⟩, ⟨rfl, .inl rfl⟩, ⟨rfl, .inl rfl⟩, ⟨rfl, .inl rfl⟩, ⟨rfl, .inl rfl⟩, ⟨rfl, .inr ⟨ZAH (ZAS _ _ _), fun ls lc F w hh => ZDH hb hh⟩⟩, ⟨rfl, .inl rfl⟩, ZAA⟩
     ·have hin := ZCf l hl th (l3 l cn p0 7).1 (l3 l cn p0 7).2.1 (l3 l cn p0 7).2.2 (fun _ => 7) (cn 7)
      have hMc := ZGU (l := l) (p0 := p0) hcn64 7
      cases hb : Nat.blt 0 (cn 7) with
      | true =>
       have hb1 : 0 < cn 7 := Nat.le_of_ble_eq_true hb
       have hs3 := ZEN (l := l) (p0 := p0) hb
       specialize hin (by omega) ⟨hb1, hcn64 7⟩ (ZCA (by decide) _)
       conv => whnf
       refine zJ ?_
       refine ZAb (m := 8) (e := 22) (by rw [hP]; kernel_rfl) (by rw [hP]; kernel_rfl) (by rw [hP]; kernel_rfl) rfl (c := 7) rfl (by decide) rfl ?_
       conv => whnf
       refine dsplit (fun h1 => ?_) (fun h1 => absurd (show (0 : Int) < ((cn 7 : Nat) : Int) by omega) h1)
       conv => whnf
       (refine ZAe (by rw [hP]; exact follows) 60 (by kernel_rfl) ?_; conv => whnf)
       repeat' (first | (refine And.intro (by first | omega | decide | (simp [ZAI]; omega)) ?_; conv => whnf) | (refine And.intro ?_ ?_ <;> (conv => whnf)))
       all_goals refine cA (hin) ?_
       repeat' (first | (refine And.intro (by first | omega | decide | (simp [ZAI]; omega)) ?_; conv => whnf) | (refine And.intro ?_ ?_ <;> (conv => whnf)))
       all_goals
        refine zP ?_
        refine ⟨8, by omega, by omega, ?_⟩
        conv => whnf
        refine Imp.trans (ZAa (ZAQ.cell 6 12 (.io (Nat.blt 0 (cn 7)) (inT l) 26) rfl rfl (fun _ => by rw [hb]; rfl) (fun _ hh => hh))) ?_
        refine ZAR hA [0, 1, 2, 3, 4, 5, 6, 7, 8, 9, 10, 11, 12, 13, 14, 15, 16, 17, 18, 19, 20, 21, 22, 23, 24, 26] rfl rfl rfl ZAj ?_ rfl
        refine ⟨⟨rfl, .inl (by first | (rw [hs3]; done) | (rw [hs3]; rfl))⟩, rfl, ⟨rfl, .inl rfl⟩, ⟨rfl, .inl rfl⟩, ⟨rfl, .inl rfl⟩, ⟨rfl, .inl rfl⟩, ⟨rfl, .inl rfl⟩, ⟨rfl, .inl rfl⟩, ⟨rfl, .inl rfl⟩, ⟨rfl, .inr ⟨ZAH (ZAS _ _ _), fun ls lc F w hh => ZA3 hb hh⟩⟩, ZAA⟩
      | false =>
       have hb1 : ¬ 0 < cn 7 := fun hh => by have h2 : Nat.blt 0 (cn 7) = true := Nat.ble_eq_true_of_le hh; rw [h2] at hb; cases hb
       have hs3 := ZG5 (l := l) (p0 := p0) hb
       conv => whnf
       refine zJ ?_
       refine ZAb (m := 8) (e := 22) (by rw [hP]; kernel_rfl) (by rw [hP]; kernel_rfl) (by rw [hP]; kernel_rfl) rfl (c := 7) rfl (by decide) rfl ?_
       conv => whnf
       refine dsplit (fun h1 => absurd (show (0 : Int) < ((cn 7 : Nat) : Int) from h1) (by omega)) (fun h1 => ?_)
       conv => whnf
       refine zP ?_
       refine ⟨8, by omega, by omega, ?_⟩
       conv => whnf
       refine Imp.trans (ZAa (ZAQ.cell 6 12 (.io (Nat.blt 0 (cn 7)) (inT l) 25) rfl rfl (fun _ => by rw [hb]; rfl) (fun _ hh => hh))) ?_
       refine ZAR hA [0, 1, 2, 3, 4, 5, 6, 7, 8, 9, 10, 11, 12, 13, 14, 15, 16, 17, 18, 19, 20, 21, 22, 23, 24, 25] rfl rfl rfl ZAj ?_ rfl
       refine ⟨⟨rfl, .inl (by first | (rw [hs3]; done) | (rw [hs3]; rfl))⟩, rfl, ⟨rfl, .inl rfl⟩, ⟨rfl, .inl rfl⟩, ⟨rfl, .inl rfl⟩, ⟨rfl, .inl rfl⟩, ⟨rfl, .inl rfl⟩, ⟨rfl, .inl rfl⟩, ⟨rfl, .inl rfl⟩, ⟨rfl, .inr ⟨ZAH (ZAS _ _ _), fun ls lc F w hh => ZDH hb hh⟩⟩, ZAA⟩
     ·conv => whnf
      refine ZA7 (ZCS [6, 2, 9, 5, 18, 19, 20, 21, 22, 23, 24, 25] (H := ZPv m M g l bu cn p0 (ZCb h m)) (np := 12) 0 rfl (by decide) rfl rfl ?_ rfl) (Nat.le_of_ble_eq_true rfl) ?_
      ·exact ZAA
      ·exact fA
def ZKl (m M g l : Nat) (budget : Int) (cn : Nat -> Nat) (p0 : Nat × (Nat -> Int) × (Nat -> Int)) (pl : Nat -> List Value) : Heap :=
 [(0, some (.st [.p 2 0 0 0, .p 1 0 0 0, .v (.int .i64 M), .v (.int .u32 budget), .i (inT g) 3, .io (lb cn 8 0) (inT l) 5, .io (lb cn 8 1) (inT l) 6, .io (lb cn 8 2) (inT l) 7, .io (lb cn 8 3) (inT l) 8, .io (lb cn 8 4) (inT l) 9, .io (lb cn 8 5) (inT l) 10, .io (lb cn 8 6) (inT l) 11, .io (lb cn 8 7) (inT l) 12, .s 4 4 0 m 0])), (2, some (ZBZ m (fun _ => 0) (fun _ => -1) false false)), (3, some (.ob [1] (inR1 g 8 (M + 8)))), (4, some (.ar 4 m pl)), (5, some (.ob [1] (OptR (lb cn 8 0) (inR1 l (cn 0) (l3 l cn p0 0).1)))), (6, some (.ob [1] (OptR (lb cn 8 1) (inR1 l (cn 1) (l3 l cn p0 1).1)))), (7, some (.ob [1] (OptR (lb cn 8 2) (inR1 l (cn 2) (l3 l cn p0 2).1)))), (8, some (.ob [1] (OptR (lb cn 8 3) (inR1 l (cn 3) (l3 l cn p0 3).1)))), (9, some (.ob [1] (OptR (lb cn 8 4) (inR1 l (cn 4) (l3 l cn p0 4).1)))), (10, some (.ob [1] (OptR (lb cn 8 5) (inR1 l (cn 5) (l3 l cn p0 5).1)))), (11, some (.ob [1] (OptR (lb cn 8 6) (inR1 l (cn 6) (l3 l cn p0 6).1)))), (12, some (.ob [1] (OptR (lb cn 8 7) (inR1 l (cn 7) (l3 l cn p0 7).1))))]
def usK (c j : Nat) : List Nat := bif Nat.blt j c then [1] else []
def usR (l : Nat) (cn : Nat -> Nat) (p0 : Nat × (Nat -> Int) × (Nat -> Int)) (c j : Nat) : RelT := bif Nat.blt j c then OptR (lb cn 8 j) (inR1 l (cn j) (l3 l cn p0 j).1) else OptR (lb cn 8 j) (inR0 l (cn j) (l3 l cn p0 j).1)
theorem ZKm (m M g l : Nat) (bu : Int) (cn : Nat -> Nat) (p0 : Nat × (Nat -> Int) × (Nat -> Int)) (pl : Nat -> List Value) (hg : isIn g) (hl : isIn l) :
  ZAC Tryz.prog 272 [(0, some (ZOz m M g l bu cn p0 pl))] 2 [.l (.p 0 0 0 0), .l (.p 1 0 0 0)] fun x h k =>
   x = .t [] /\ k = 2 /\ h = [(0, some (ZEH (ZKl m M g l bu cn p0 pl) 13 1))] := by
 have hug := ZBk g hg 8 (M + 8)
 refine sG (ZAY 0 (h := [(0, some (ZOz m M g l bu cn p0 pl))]) (n := 2) (ks := []) (H := ZPv m M g l bu cn p0 pl) (np := 12) rfl (by decide) rfl rfl rfl) Tryz.func272 ic272_eq [] fun G hP hA => ?_
 unfold evF ic272
 conv => whnf
 refine ZBl hP (ZB9 g hg) ?_
 refine cA (hug) ?_
 refine ZAf (α := Nat) (ds := []) (N := 13) (fun c => [(20, sInt .i64 (c : Int))]) [] (fun c => [(5, some (.ob (usK c 0) (usR l cn p0 c 0))), (6, some (.ob (usK c 1) (usR l cn p0 c 1))), (7, some (.ob (usK c 2) (usR l cn p0 c 2))), (8, some (.ob (usK c 3) (usR l cn p0 c 3))), (9, some (.ob (usK c 4) (usR l cn p0 c 4))), (10, some (.ob (usK c 5) (usR l cn p0 c 5))), (11, some (.ob (usK c 6) (usR l cn p0 c 6))), (12, some (.ob (usK c 7) (usR l cn p0 c 7)))])
  (fun c => c <= 8) (fun c => 8 - c) 0 (Nat.zero_le _) ?_ fun c hc8 => ?_
 ·conv => whnf
  refine ZAR hA [0, 1, 2, 3, 4, 5, 6, 7, 8, 9, 10, 11, 12] rfl rfl rfl ZAj ?_ rfl
  exact ZAA
 rcases (show c = 0 \/ c = 1 \/ c = 2 \/ c = 3 \/ c = 4 \/ c = 5 \/ c = 6 \/ c = 7 \/ c = 8 by omega) with rfl | rfl | rfl | rfl | rfl | rfl | rfl | rfl | rfl
 ·have hu := ZBk l hl (cn 0) (l3 l cn p0 0).1
  cases hb : lb cn 8 0 with
  | true =>
   conv => whnf
   refine zJ ?_
   refine ZAb (m := 8) (e := 51) (by rw [hP]; kernel_rfl) (by rw [hP]; kernel_rfl) (by rw [hP]; kernel_rfl) rfl (c := 0) rfl (by decide) rfl ?_
   conv => whnf
   refine ZFn rfl (ZBl hP (ZB9 l hl) ?_)
   refine cQ (hu) ?_ ?_
   ·exact ⟨⟨rfl, .inr ⟨ZAS _ _ _, fun ls lc F w hh => hh.1 hb⟩⟩, trivial⟩
   conv => whnf
   refine zP ?_
   refine ⟨1, by omega, by omega, ?_⟩
   conv => whnf
   refine ZAR hA [0, 1, 2, 3, 4, 5, 6, 7, 8, 9, 10, 11, 12] rfl rfl rfl ZAj ?_ rfl
   exact ⟨⟨rfl, .inr ⟨ZAH (ZAi _ _ _), fun ls lc F w hh => ZA3 hb hh⟩⟩, ⟨rfl, .inl rfl⟩, ⟨rfl, .inl rfl⟩, ⟨rfl, .inl rfl⟩, ⟨rfl, .inl rfl⟩, ⟨rfl, .inl rfl⟩, ⟨rfl, .inl rfl⟩, ⟨rfl, .inl rfl⟩, ZAA⟩
  | false =>
   conv => whnf
   refine zJ ?_
   refine ZAb (m := 8) (e := 51) (by rw [hP]; kernel_rfl) (by rw [hP]; kernel_rfl) (by rw [hP]; kernel_rfl) rfl (c := 0) rfl (by decide) rfl ?_
   conv => whnf
   refine zP ?_
   refine ⟨1, by omega, by omega, ?_⟩
   conv => whnf
   refine Imp.trans (ZAa (ZAQ.reob 5 [1] (OptR (lb cn 8 0) (inR1 l (cn 0) (l3 l cn p0 0).1)) rfl (fun j hj => by rw [List.mem_singleton.1 hj]; exact Nat.le_of_ble_eq_true rfl) (ZAH (ZAi _ _ _)) (fun ls ls2 lc F w hh => ZDG hb hh))) ?_
   refine ZAR hA [0, 1, 2, 3, 4, 5, 6, 7, 8, 9, 10, 11, 12] rfl rfl rfl ZAj ?_ rfl
   exact ⟨⟨rfl, .inl rfl⟩, ⟨rfl, .inl rfl⟩, ⟨rfl, .inl rfl⟩, ⟨rfl, .inl rfl⟩, ⟨rfl, .inl rfl⟩, ⟨rfl, .inl rfl⟩, ⟨rfl, .inl rfl⟩, ⟨rfl, .inl rfl⟩, ZAA⟩
 ·have hu := ZBk l hl (cn 1) (l3 l cn p0 1).1
  cases hb : lb cn 8 1 with
  | true =>
   conv => whnf
   refine zJ ?_
   refine ZAb (m := 8) (e := 51) (by rw [hP]; kernel_rfl) (by rw [hP]; kernel_rfl) (by rw [hP]; kernel_rfl) rfl (c := 1) rfl (by decide) rfl ?_
   conv => whnf
   refine ZFn rfl (ZBl hP (ZB9 l hl) ?_)
   refine cQ (hu) ?_ ?_
   ·exact ⟨⟨rfl, .inr ⟨ZAS _ _ _, fun ls lc F w hh => hh.1 hb⟩⟩, trivial⟩
   conv => whnf
   refine zP ?_
   refine ⟨2, by omega, by omega, ?_⟩
   conv => whnf
   refine ZAR hA [0, 1, 2, 3, 4, 5, 6, 7, 8, 9, 10, 11, 12] rfl rfl rfl ZAj ?_ rfl
   exact ⟨⟨rfl, .inl rfl⟩, ⟨rfl, .inr ⟨ZAH (ZAi _ _ _), fun ls lc F w hh => ZA3 hb hh⟩⟩, ⟨rfl, .inl rfl⟩, ⟨rfl, .inl rfl⟩, ⟨rfl, .inl rfl⟩, ⟨rfl, .inl rfl⟩, ⟨rfl, .inl rfl⟩, ⟨rfl, .inl rfl⟩, ZAA⟩
  | false =>
   conv => whnf
   refine zJ ?_
   refine ZAb (m := 8) (e := 51) (by rw [hP]; kernel_rfl) (by rw [hP]; kernel_rfl) (by rw [hP]; kernel_rfl) rfl (c := 1) rfl (by decide) rfl ?_
   conv => whnf
   refine zP ?_
   refine ⟨2, by omega, by omega, ?_⟩
   conv => whnf
   refine Imp.trans (ZAa (ZAQ.reob 6 [1] (OptR (lb cn 8 1) (inR1 l (cn 1) (l3 l cn p0 1).1)) rfl (fun j hj => by rw [List.mem_singleton.1 hj]; exact Nat.le_of_ble_eq_true rfl) (ZAH (ZAi _ _ _)) (fun ls ls2 lc F w hh => ZDG hb hh))) ?_
   refine ZAR hA [0, 1, 2, 3, 4, 5, 6, 7, 8, 9, 10, 11, 12] rfl rfl rfl ZAj ?_ rfl
   exact ⟨⟨rfl, .inl rfl⟩, ⟨rfl, .inl rfl⟩, ⟨rfl, .inl rfl⟩, ⟨rfl, .inl rfl⟩, ⟨rfl, .inl rfl⟩, ⟨rfl, .inl rfl⟩, ⟨rfl, .inl rfl⟩, ⟨rfl, .inl rfl⟩, ZAA⟩
 ·have hu := ZBk l hl (cn 2) (l3 l cn p0 2).1
  cases hb : lb cn 8 2 with
  | true =>
   conv => whnf
   refine zJ ?_
   refine ZAb (m := 8) (e := 51) (by rw [hP]; kernel_rfl) (by rw [hP]; kernel_rfl) (by rw [hP]; kernel_rfl) rfl (c := 2) rfl (by decide) rfl ?_
   conv => whnf
   refine ZFn rfl (ZBl hP (ZB9 l hl) ?_)
   refine cQ (hu) ?_ ?_
   ·exact ⟨⟨rfl, .inr ⟨ZAS _ _ _, fun ls lc F w hh => hh.1 hb⟩⟩, trivial⟩
   conv => whnf
   refine zP ?_
   refine ⟨3, by omega, by omega, ?_⟩
   conv => whnf
   refine ZAR hA [0, 1, 2, 3, 4, 5, 6, 7, 8, 9, 10, 11, 12] rfl rfl rfl ZAj ?_ rfl
   exact ⟨⟨rfl, .inl rfl⟩, ⟨rfl, .inl rfl⟩, ⟨rfl, .inr ⟨ZAH (ZAi _ _ _), fun ls lc F w hh => ZA3 hb hh⟩⟩, ⟨rfl, .inl rfl⟩, ⟨rfl, .inl rfl⟩, ⟨rfl, .inl rfl⟩, ⟨rfl, .inl rfl⟩, ⟨rfl, .inl rfl⟩, ZAA⟩
  | false =>
   conv => whnf
   refine zJ ?_
   refine ZAb (m := 8) (e := 51) (by rw [hP]; kernel_rfl) (by rw [hP]; kernel_rfl) (by rw [hP]; kernel_rfl) rfl (c := 2) rfl (by decide) rfl ?_
   conv => whnf
   refine zP ?_
   refine ⟨3, by omega, by omega, ?_⟩
   conv => whnf
   refine Imp.trans (ZAa (ZAQ.reob 7 [1] (OptR (lb cn 8 2) (inR1 l (cn 2) (l3 l cn p0 2).1)) rfl (fun j hj => by rw [List.mem_singleton.1 hj]; exact Nat.le_of_ble_eq_true rfl) (ZAH (ZAi _ _ _)) (fun ls ls2 lc F w hh => ZDG hb hh))) ?_
   refine ZAR hA [0, 1, 2, 3, 4, 5, 6, 7, 8, 9, 10, 11, 12] rfl rfl rfl ZAj ?_ rfl
   exact ⟨⟨rfl, .inl rfl⟩, ⟨rfl, .inl rfl⟩, ⟨rfl, .inl rfl⟩, ⟨rfl, .inl rfl⟩, ⟨rfl, .inl rfl⟩, ⟨rfl, .inl rfl⟩, ⟨rfl, .inl rfl⟩, ⟨rfl, .inl rfl⟩, ZAA⟩
 ·have hu := ZBk l hl (cn 3) (l3 l cn p0 3).1
  cases hb : lb cn 8 3 with
  | true =>
   conv => whnf
   refine zJ ?_
   refine ZAb (m := 8) (e := 51) (by rw [hP]; kernel_rfl) (by rw [hP]; kernel_rfl) (by rw [hP]; kernel_rfl) rfl (c := 3) rfl (by decide) rfl ?_
   conv => whnf
   refine ZFn rfl (ZBl hP (ZB9 l hl) ?_)
   refine cQ (hu) ?_ ?_
   ·exact ⟨⟨rfl, .inr ⟨ZAS _ _ _, fun ls lc F w hh => hh.1 hb⟩⟩, trivial⟩
   conv => whnf
   refine zP ?_
   refine ⟨4, by omega, by omega, ?_⟩
   conv => whnf
   refine ZAR hA [0, 1, 2, 3, 4, 5, 6, 7, 8, 9, 10, 11, 12] rfl rfl rfl ZAj ?_ rfl
   exact ⟨⟨rfl, .inl rfl⟩, ⟨rfl, .inl rfl⟩, ⟨rfl, .inl rfl⟩, ⟨rfl, .inr ⟨ZAH (ZAi _ _ _), fun ls lc F w hh => ZA3 hb hh⟩⟩, ⟨rfl, .inl rfl⟩, ⟨rfl, .inl rfl⟩, ⟨rfl, .inl rfl⟩, ⟨rfl, .inl rfl⟩, ZAA⟩
  | false =>
   conv => whnf
   refine zJ ?_
   refine ZAb (m := 8) (e := 51) (by rw [hP]; kernel_rfl) (by rw [hP]; kernel_rfl) (by rw [hP]; kernel_rfl) rfl (c := 3) rfl (by decide) rfl ?_
   conv => whnf
   refine zP ?_
   refine ⟨4, by omega, by omega, ?_⟩
   conv => whnf
   refine Imp.trans (ZAa (ZAQ.reob 8 [1] (OptR (lb cn 8 3) (inR1 l (cn 3) (l3 l cn p0 3).1)) rfl (fun j hj => by rw [List.mem_singleton.1 hj]; exact Nat.le_of_ble_eq_true rfl) (ZAH (ZAi _ _ _)) (fun ls ls2 lc F w hh => ZDG hb hh))) ?_
   refine ZAR hA [0, 1, 2, 3, 4, 5, 6, 7, 8, 9, 10, 11, 12] rfl rfl rfl ZAj ?_ rfl
   exact ⟨⟨rfl, .inl rfl⟩, ⟨rfl, .inl rfl⟩, ⟨rfl, .inl rfl⟩, ⟨rfl, .inl rfl⟩, ⟨rfl, .inl rfl⟩, ⟨rfl, .inl rfl⟩, ⟨rfl, .inl rfl⟩, ⟨rfl, .inl rfl⟩, ZAA⟩
 ·have hu := ZBk l hl (cn 4) (l3 l cn p0 4).1
  cases hb : lb cn 8 4 with
  | true =>
   conv => whnf
   refine zJ ?_
   refine ZAb (m := 8) (e := 51) (by rw [hP]; kernel_rfl) (by rw [hP]; kernel_rfl) (by rw [hP]; kernel_rfl) rfl (c := 4) rfl (by decide) rfl ?_
   conv => whnf
   refine ZFn rfl (ZBl hP (ZB9 l hl) ?_)
   refine cQ (hu) ?_ ?_
   ·exact ⟨⟨rfl, .inr ⟨ZAS _ _ _, fun ls lc F w hh => hh.1 hb⟩⟩, trivial⟩
   conv => whnf
   refine zP ?_
   refine ⟨5, by omega, by omega, ?_⟩
   conv => whnf
   refine ZAR hA [0, 1, 2, 3, 4, 5, 6, 7, 8, 9, 10, 11, 12] rfl rfl rfl ZAj ?_ rfl
   exact ⟨⟨rfl, .inl rfl⟩, ⟨rfl, .inl rfl⟩, ⟨rfl, .inl rfl⟩, ⟨rfl, .inl rfl⟩, ⟨rfl, .inr ⟨ZAH (ZAi _ _ _), fun ls lc F w hh => ZA3 hb hh⟩⟩, ⟨rfl, .inl rfl⟩, ⟨rfl, .inl rfl⟩, ⟨rfl, .inl rfl⟩, ZAA⟩
  | false =>
   conv => whnf
   refine zJ ?_
   refine ZAb (m := 8) (e := 51) (by rw [hP]; kernel_rfl) (by rw [hP]; kernel_rfl) (by rw [hP]; kernel_rfl) rfl (c := 4) rfl (by decide) rfl ?_
   conv => whnf
   refine zP ?_
   refine ⟨5, by omega, by omega, ?_⟩
   conv => whnf
   refine Imp.trans (ZAa (ZAQ.reob 9 [1] (OptR (lb cn 8 4) (inR1 l (cn 4) (l3 l cn p0 4).1)) rfl (fun j hj => by rw [List.mem_singleton.1 hj]; exact Nat.le_of_ble_eq_true rfl) (ZAH (ZAi _ _ _)) (fun ls ls2 lc F w hh => ZDG hb hh))) ?_
   refine ZAR hA [0, 1, 2, 3, 4, 5, 6, 7, 8, 9, 10, 11, 12] rfl rfl rfl ZAj ?_ rfl
   exact ⟨⟨rfl, .inl rfl⟩, ⟨rfl, .inl rfl⟩, ⟨rfl, .inl rfl⟩, ⟨rfl, .inl rfl⟩, ⟨rfl, .inl rfl⟩, ⟨rfl, .inl rfl⟩, ⟨rfl, .inl rfl⟩, ⟨rfl, .inl rfl⟩, ZAA⟩
 ·have hu := ZBk l hl (cn 5) (l3 l cn p0 5).1
  cases hb : lb cn 8 5 with
  | true =>
   conv => whnf
   refine zJ ?_
   refine ZAb (m := 8) (e := 51) (by rw [hP]; kernel_rfl) (by rw [hP]; kernel_rfl) (by rw [hP]; kernel_rfl) rfl (c := 5) rfl (by decide) rfl ?_
   conv => whnf
   refine ZFn rfl (ZBl hP (ZB9 l hl) ?_)
   refine cQ (hu) ?_ ?_
   ·exact ⟨⟨rfl, .inr ⟨ZAS _ _ _, fun ls lc F w hh => hh.1 hb⟩⟩, trivial⟩
   conv => whnf
   refine zP ?_
   refine ⟨6, by omega, by omega, ?_⟩
   conv => whnf
   refine ZAR hA [0, 1, 2, 3, 4, 5, 6, 7, 8, 9, 10, 11, 12] rfl rfl rfl ZAj ?_ rfl
   exact ⟨⟨rfl, .inl rfl⟩, ⟨rfl, .inl rfl⟩, ⟨rfl, .inl rfl⟩, ⟨rfl, .inl rfl⟩, ⟨rfl, .inl rfl⟩, ⟨rfl, .inr ⟨ZAH (ZAi _ _ _), fun ls lc F w hh => ZA3 hb hh⟩⟩, ⟨rfl, .inl rfl⟩, ⟨rfl, .inl rfl⟩, ZAA⟩
  | false =>
   conv => whnf
   refine zJ ?_
   refine ZAb (m := 8) (e := 51) (by rw [hP]; kernel_rfl) (by rw [hP]; kernel_rfl) (by rw [hP]; kernel_rfl) rfl (c := 5) rfl (by decide) rfl ?_
   conv => whnf
   refine zP ?_
   refine ⟨6, by omega, by omega, ?_⟩
   conv => whnf
   refine Imp.trans (ZAa (ZAQ.reob 10 [1] (OptR (lb cn 8 5) (inR1 l (cn 5) (l3 l cn p0 5).1)) rfl (fun j hj => by rw [List.mem_singleton.1 hj]; exact Nat.le_of_ble_eq_true rfl) (ZAH (ZAi _ _ _)) (fun ls ls2 lc F w hh => ZDG hb hh))) ?_
   refine ZAR hA [0, 1, 2, 3, 4, 5, 6, 7, 8, 9, 10, 11, 12] rfl rfl rfl ZAj ?_ rfl
   exact ⟨⟨rfl, .inl rfl⟩, ⟨rfl, .inl rfl⟩, ⟨rfl, .inl rfl⟩, ⟨rfl, .inl rfl⟩, ⟨rfl, .inl rfl⟩, ⟨rfl, .inl rfl⟩, ⟨rfl, .inl rfl⟩, ⟨rfl, .inl rfl⟩, ZAA⟩
 ·have hu := ZBk l hl (cn 6) (l3 l cn p0 6).1
  cases hb : lb cn 8 6 with
  | true =>
   conv => whnf
   refine zJ ?_
   refine ZAb (m := 8) (e := 51) (by rw [hP]; kernel_rfl) (by rw [hP]; kernel_rfl) (by rw [hP]; kernel_rfl) rfl (c := 6) rfl (by decide) rfl ?_
   conv => whnf
   refine ZFn rfl (ZBl hP (ZB9 l hl) ?_)
   refine cQ (hu) ?_ ?_
   ·exact ⟨⟨rfl, .inr ⟨ZAS _ _ _, fun ls lc F w hh => hh.1 hb⟩⟩, trivial⟩
   conv => whnf
   refine zP ?_
   refine ⟨7, by omega, by omega, ?_⟩
   conv => whnf
   refine ZAR hA [0, 1, 2, 3, 4, 5, 6, 7, 8, 9, 10, 11, 12] rfl rfl rfl ZAj ?_ rfl
   exact ⟨⟨rfl, .inl rfl⟩, ⟨rfl, .inl rfl⟩, ⟨rfl, .inl rfl⟩, ⟨rfl, .inl rfl⟩, ⟨rfl, .inl rfl⟩, ⟨rfl, .inl rfl⟩, ⟨rfl, .inr ⟨ZAH (ZAi _ _ _), fun ls lc F w hh => ZA3 hb hh⟩⟩, ⟨rfl, .inl rfl⟩, ZAA⟩
  | false =>
   conv => whnf
   refine zJ ?_
   refine ZAb (m := 8) (e := 51) (by rw [hP]; kernel_rfl) (by rw [hP]; kernel_rfl) (by rw [hP]; kernel_rfl) rfl (c := 6) rfl (by decide) rfl ?_
   conv => whnf
   refine zP ?_
   refine ⟨7, by omega, by omega, ?_⟩
   conv => whnf
   refine Imp.trans (ZAa (ZAQ.reob 11 [1] (OptR (lb cn 8 6) (inR1 l (cn 6) (l3 l cn p0 6).1)) rfl (fun j hj => by rw [List.mem_singleton.1 hj]; exact Nat.le_of_ble_eq_true rfl) (ZAH (ZAi _ _ _)) (fun ls ls2 lc F w hh => ZDG hb hh))) ?_
   refine ZAR hA [0, 1, 2, 3, 4, 5, 6, 7, 8, 9, 10, 11, 12] rfl rfl rfl ZAj ?_ rfl
   exact ⟨⟨rfl, .inl rfl⟩, ⟨rfl, .inl rfl⟩, ⟨rfl, .inl rfl⟩, ⟨rfl, .inl rfl⟩, ⟨rfl, .inl rfl⟩, ⟨rfl, .inl rfl⟩, ⟨rfl, .inl rfl⟩, ⟨rfl, .inl rfl⟩, ZAA⟩
 ·have hu := ZBk l hl (cn 7) (l3 l cn p0 7).1
  cases hb : lb cn 8 7 with
  | true =>
   conv => whnf
   refine zJ ?_
   refine ZAb (m := 8) (e := 51) (by rw [hP]; kernel_rfl) (by rw [hP]; kernel_rfl) (by rw [hP]; kernel_rfl) rfl (c := 7) rfl (by decide) rfl ?_
   conv => whnf
   refine ZFn rfl (ZBl hP (ZB9 l hl) ?_)
   refine cQ (hu) ?_ ?_
   ·exact ⟨⟨rfl, .inr ⟨ZAS _ _ _, fun ls lc F w hh => hh.1 hb⟩⟩, trivial⟩
   conv => whnf
   refine zP ?_
   refine ⟨8, by omega, by omega, ?_⟩
   conv => whnf
   refine ZAR hA [0, 1, 2, 3, 4, 5, 6, 7, 8, 9, 10, 11, 12] rfl rfl rfl ZAj ?_ rfl
   exact ⟨⟨rfl, .inl rfl⟩, ⟨rfl, .inl rfl⟩, ⟨rfl, .inl rfl⟩, ⟨rfl, .inl rfl⟩, ⟨rfl, .inl rfl⟩, ⟨rfl, .inl rfl⟩, ⟨rfl, .inl rfl⟩, ⟨rfl, .inr ⟨ZAH (ZAi _ _ _), fun ls lc F w hh => ZA3 hb hh⟩⟩, ZAA⟩
  | false =>
   conv => whnf
   refine zJ ?_
   refine ZAb (m := 8) (e := 51) (by rw [hP]; kernel_rfl) (by rw [hP]; kernel_rfl) (by rw [hP]; kernel_rfl) rfl (c := 7) rfl (by decide) rfl ?_
   conv => whnf
   refine zP ?_
   refine ⟨8, by omega, by omega, ?_⟩
   conv => whnf
   refine Imp.trans (ZAa (ZAQ.reob 12 [1] (OptR (lb cn 8 7) (inR1 l (cn 7) (l3 l cn p0 7).1)) rfl (fun j hj => by rw [List.mem_singleton.1 hj]; exact Nat.le_of_ble_eq_true rfl) (ZAH (ZAi _ _ _)) (fun ls ls2 lc F w hh => ZDG hb hh))) ?_
   refine ZAR hA [0, 1, 2, 3, 4, 5, 6, 7, 8, 9, 10, 11, 12] rfl rfl rfl ZAj ?_ rfl
   exact ⟨⟨rfl, .inl rfl⟩, ⟨rfl, .inl rfl⟩, ⟨rfl, .inl rfl⟩, ⟨rfl, .inl rfl⟩, ⟨rfl, .inl rfl⟩, ⟨rfl, .inl rfl⟩, ⟨rfl, .inl rfl⟩, ⟨rfl, .inl rfl⟩, ZAA⟩
 ·conv => whnf
  refine ZA7 (ZCS [0, 1, 2, 3, 4, 5, 6, 7, 8, 9, 10, 11, 12] (H := ZKl m M g l bu cn p0 pl) (np := 13) 1 rfl (by decide) rfl rfl ?_ rfl) (Nat.le_of_ble_eq_true rfl) ?_
  ·exact ZAA
  ·exact fA
theorem ZIE (v : Value) (args : Array Value) (w : World) : (callMethod (.iface 239 v) "Use" args).run Tryz.prog w = .ok (.enter 272 (#[v] ++ args)) w := by kernel_rfl
theorem ZJX {k m M : Nat} {hs h : Nat -> Int} (hk : isIn k) (hm : 1 <= m) (hf : ∀ j, j < M -> badH (hs j) = false) (hb : ∀ i, i < m -> badH (h i) = false) (j : Nat) (hj : j < M + inN k m) : badH (inHs k hs M h m j) = false := by
 rcases hk with rfl | rfl | rfl
 ·exact ZBL (Q := fun x => badH x = false) (fun j hj => ZBL (Q := fun x => badH x = false) hf (hb 0 hm) j) (hb 0 hm) j
 ·exact ZDY (Q := fun x => badH x = false) (m := M + 2) (fun j hj => ZBL (Q := fun x => badH x = false) (fun j hj => ZBL (Q := fun x => badH x = false) hf (hb 0 hm) j) (hb 0 hm) j) m hb j (by simp only [inN] at hj; omega)
 ·exact ZFv (Q := fun x => badH x = false) (q := 2) (m := M + 1) (fun j hj => ZBL (Q := fun x => badH x = false) hf (hb 0 hm) j) m hb j (by simp only [inN] at hj; omega)
theorem ZNp {l : Nat} {cn : Nat -> Nat} {p0 : Nat × (Nat -> Int) × (Nat -> Int)} (hl : isIn l) (hp : ∀ j, j < p0.1 -> badH (p0.2.1 j) = false) : ∀ i, i <= 8 -> ∀ j, j < (l3 l cn p0 i).1 -> badH ((l3 l cn p0 i).2.1 j) = false
 | 0, _ => hp
 | i + 1, hi => by
  have ih := ZNp (cn := cn) hl hp i (by omega)
  cases h : Nat.blt 0 (cn i) with
  | true =>
   rw [ZEN h]
   exact ZJX hl (Nat.le_of_ble_eq_true h) ih fun _ _ => by unfold badH; simp; omega
  | false => rw [ZG5 h]; exact ih
theorem ZPw (g : Nat) (hs ws : Nat -> Int) (hg : isIn g) (j : Nat) (hj : j < (p0F 0 g hs ws).1) : badH ((p0F 0 g hs ws).2.1 j) = false := by
 refine ZJX hg (by omega) (fun j hj => ?_) (fun i hi => by unfold badH; simp; omega) j hj
 refine ZDY (Q := fun x => badH x = false) (m := 0) (fun j hj => absurd hj (Nat.not_lt_zero j)) 8 (fun i hi => by unfold badH; simp; omega) j hj
def cohN (m g l : Nat) (h : Nat -> Int) : Nat := (l3 l (cnt h m) (p0F 0 g (fun _ => 0) fun _ => 0) 8).1
def ZNq (m g l : Nat) (h : Nat -> Int) : Nat -> Int := (l3 l (cnt h m) (p0F 0 g (fun _ => 0) fun _ => 0) 8).2.1
def ZNr (m g l : Nat) (h : Nat -> Int) : Nat -> Int := (l3 l (cnt h m) (p0F 0 g (fun _ => 0) fun _ => 0) 8).2.2
theorem ZNs (m g l : Nat) (h : Nat -> Int) (hm : m <= 64) : cohN m g l h <= 1066 := by
 have h1 := ZGU (l := l) (p0 := p0F 0 g (fun _ => 0) fun _ => 0) (cn := cnt h m) (fun j => Nat.le_trans (ZHP h m j) hm) 8
 have h2 := ZLW g 8
 have h3 : (p0F 0 g (fun _ => 0) fun _ => 0).1 = 0 + 8 + inN g 8 := rfl
 unfold cohN
 omega
theorem ZPx (th : Int) (h : Nat -> Int) (m g l : Nat) (start slots pool budget : Int) (hm : 1 <= m /\ m <= 64) (hb : anyZ badH h m = false) (hg : g = 1 \/ g = 4) (hl : isIn l) (hbu : 1 <= budget /\ budget <= 1000) :
  ZAC Tryz.prog 64 [(0, some (ZBA th 0 (fun _ => 0) fun _ => 0)), (1, some (.ro 1 m (numE h)))] 2 [.l (.p 0 0 0 0), ZB5 7 1 m start slots pool budget g l] fun x h' k =>
   x = .t [.l (.i 239 2), .l (.v (.int .i64 0))] /\ k = 3 /\ h' = [(0, some (ZBA th (cohN m g l h) (ZNq m g l h) (ZNr m g l h))), (2, some (ZOz m 0 g l budget (cnt h m) (p0F 0 g (fun _ => 0) fun _ => 0) (ZCb h m)))] := by
 have hcn := ZNo th 0 (fun _ => 0) (fun _ => 0) h m g l budget (by omega) hm hb hg hl hbu
 refine sE Tryz.func64 ic64_eq [.t 4, .t 5] fun G hP hA => ?_
 unfold evF ic64
 conv => whnf
 refine cA (hcn) ?_
 exact fA
theorem ZJY (h : Nat -> Int) (m g l : Nat) (start slots pool budget : Int) (hm : 1 <= m /\ m <= 64) (hb : anyZ badH h m = false) (hg : g = 1 \/ g = 4) (hl : isIn l) (hbu : 1 <= budget /\ budget <= 1000) :
  ZAC Tryz.prog 33 [(0, some (.ro 1 m (numE h)))] 1 [ZB5 7 0 m start slots pool budget g l] fun x h' k =>
   x = .t [.l (.i 239 1), .l (.p 2 0 0 0), .l (.v (.int .i64 0))] /\ k = 3 /\ h' = [(1, some (.ob [2] (ZAl (ZKl m 0 g l budget (cnt h m) (p0F 0 g (fun _ => 0) fun _ => 0) (ZCb h m)) 13))),
    (2, some (ZBb m (cohN m g l h) (cutF (ZNr m g l h) (cohN m g l h)) (ZNq m g l h) (fun _ => 0) (fun _ => 0) (fun _ => 0) fun _ => 0))] := by
 have hgi : isIn g := by unfold isIn; omega
 have hpn := ZBa (m : Int) (fun _ => 0) fun _ => 0
 have hly := ZPx (m : Int) h m g l start slots pool budget hm hb hg hl hbu
 have hpp := ZBu m (cohN m g l h) (ZNq m g l h) (ZNr m g l h) hm (Nat.le_trans (ZNs m g l h hm.2) (by decide)) (ZAr.2 (ZNp hl (ZPw g _ _ hgi) 8 (Nat.le_refl 8)))
 have hu := ZKm m 0 g l budget (cnt h m) (p0F 0 g (fun _ => 0) fun _ => 0) (ZCb h m) hgi hl
 refine sE Tryz.func33 ic33_eq [.t 2, .t 3, .t 4] fun G hP hA => ?_
 unfold evF ic33
 conv => whnf
 refine zP ?_
 refine cA (hpn) ?_
 refine cA (hly) ?_
 refine cA (hpp) ?_
 refine ZBl hP ZIE ?_
 refine cA (hu) ?_
 exact fA
structure CK where
 M : Nat
 bu : Int
 cn : Nat -> Nat
 no : Nat -> Nat
 inn : Nat -> Int
 gT : Nat
 lT : Nat
structure CO where
 ss : SS
 td : Nat -> Nat
 pa : Nat -> Int
 g : K1
 lo : Nat -> K1
def CK.b (K : CK) (c : Nat) : Bool := lb K.cn 8 c
def tdV : Nat -> Value
 | 0 => .nilFunc
 | f + 1 => .func (.func (f + 1)) #[] #[]
def plE (no : Nat -> Nat) (inn : Nat -> Int) (td : Nat -> Nat) (pa : Nat -> Int) : Nat -> List Value := fun t => [.int .i64 (no t : Int), .int .i64 (inn t), tdV (td t), .int .u32 (pa t)]
def updN (f : Nat -> Nat) (i : Nat) (v : Nat) : Nat -> Nat := fun j => if j = i then v else f j
def updK (f : Nat -> K1) (i : Nat) (v : K1) : Nat -> K1 := fun j => if j = i then v else f j
def loE (K : CK) (lo : Nat -> K1) (c j : Nat) : Ent := match Nat.beq j c with | true => .ob [1] ((lo j).R (K.cn j)) | false => .ob [1] (OptR (K.b j) ((lo j).R (K.cn j)))
def ioC (K : CK) (c j : Nat) : LV := match Nat.beq j c with | true => .i K.lT (5 + j) | false => .io (K.b j) K.lT (5 + j)
def ZRL (K : CK) (m c : Nat) : List LV := [.p 2 0 0 0, .p 1 0 0 0, .v (.int .i64 K.M), .v (.int .u32 K.bu), .i K.gT 3, ioC K c 0, ioC K c 1, ioC K c 2, ioC K c 3, ioC K c 4, ioC K c 5, ioC K c 6, ioC K c 7, .s 4 4 0 m 0]
def ZFq (K : CK) (m c : Nat) (L : CO) : Heap :=
 [(0, some (.st (ZRL K m c))), (2, some (ZBZ m L.ss.st L.ss.dl false false)), (3, some (.ob [1] (L.g.R 8))), (4, some (.ar 4 m (plE K.no K.inn L.td L.pa))), (5, some (loE K L.lo c 0)), (6, some (loE K L.lo c 1)), (7, some (loE K L.lo c 2)), (8, some (loE K L.lo c 3)), (9, some (loE K L.lo c 4)), (10, some (loE K L.lo c 5)), (11, some (loE K L.lo c 6)), (12, some (loE K L.lo c 7))]
def cohG (K : CK) (m nt nw c : Nat) (hs : Nat -> Int) (L : CO) (s : PS) : Heap := (1, some (ZBK nt nw hs s)) :: ZFq K m c L
theorem ZF5 (no : Nat -> Nat) (inn : Nat -> Int) (td : Nat -> Nat) (pa : Nat -> Int) (i f : Nat) (j : Nat) : mrgL (j = i) (ZAG (plE no inn td pa j) 2 [tdV f]) (plE no inn td pa j) = plE no inn (updN td i f) pa j := by
 rw [ZFR _ _ _ (by rw [ZA5])]
 simp only [plE, updN, ZAG, setL]
 by_cases h : j = i <;> simp [h]
theorem ZEv (no : Nat -> Nat) (inn : Nat -> Int) (td : Nat -> Nat) (pa : Nat -> Int) (i : Nat) (v : Int) (j : Nat) : mrgL (j = i) (ZAG (plE no inn td pa j) 3 [.int .u32 v]) (plE no inn td pa j) = plE no inn td (updF pa i v) j := by
 rw [ZFR _ _ _ (by rw [ZA5])]
 simp only [plE, updF, ZAG, setL]
 by_cases h : j = i <;> simp [h]
theorem ZEw (f : Nat -> Nat) (i u v : Nat) : updN (updN f i u) i v = updN f i v := by
 funext j
 simp only [updN]
 by_cases h : j = i <;> simp [h]
theorem ZDr {P : Program} {G : Ctx} {f : FuncId} {pre : Heap} {np : Nat} {args : List AV} {X : SV} {M : Nat} {H : Heap} {xs : List AV} {h : Heap} {n : Nat} {K : SV -> Heap -> Nat -> Prop} (hP : G.P = P) (hsp : ZAC P f pre np args fun x h m => x = X /\ m = M /\ h = H) (l : List Nat)
  (h1 : l.length = np) (h2 : l.all (fun j => decide (j < n)) = true) (h3 : xs = args.map (AV.ren (ren1 l n))) (h4 : ZBJ (ren1 l n) h pre) (h5 : ZBo (ren1 l n) pre = true) (h6 : ZEj (ren2 l n) M H = true) (h7 : K (X.ren (ren2 l n)) (renH (ren2 l n) H ++ tomb (ren1 l n) pre) (n + (M - np))) : CallP G f xs h n K := by
 subst hP
 exact ZF1 hsp l h1 h2 h3 h4 h5 h6 h7
theorem ZAv (no : Nat -> Nat) (inn : Nat -> Int) (td : Nat -> Nat) (pa : Nat -> Int) (i : Nat) (j : Nat) : mrgL (j = i) (ZAG (plE no inn td pa j) 2 [Value.func (Fn.func 275) #[] #[]]) (plE no inn td pa j) = plE no inn (updN td i 275) pa j := ZF5 no inn td pa i 275 j
theorem ZBC (no : Nat -> Nat) (inn : Nat -> Int) (td : Nat -> Nat) (pa : Nat -> Int) (i : Nat) (j : Nat) : mrgL (j = i) (ZAG (plE no inn td pa j) 2 [Value.func (Fn.func 278) #[] #[]]) (plE no inn td pa j) = plE no inn (updN td i 278) pa j := ZF5 no inn td pa i 278 j
theorem ZBD (no : Nat -> Nat) (inn : Nat -> Int) (td : Nat -> Nat) (pa : Nat -> Int) (i : Nat) (j : Nat) : mrgL (j = i) (ZAG (plE no inn td pa j) 2 [Value.func (Fn.func 281) #[] #[]]) (plE no inn td pa j) = plE no inn (updN td i 281) pa j := ZF5 no inn td pa i 281 j
theorem ZAw (no : Nat -> Nat) (inn : Nat -> Int) (td : Nat -> Nat) (pa : Nat -> Int) (i : Nat) (j : Nat) : mrgL (j = i) (ZAG (plE no inn td pa j) 2 [Value.func (Fn.func 283) #[] #[]]) (plE no inn td pa j) = plE no inn (updN td i 283) pa j := ZF5 no inn td pa i 283 j
theorem ZAx (no : Nat -> Nat) (inn : Nat -> Int) (td : Nat -> Nat) (pa : Nat -> Int) (i : Nat) (j : Nat) : mrgL (j = i) (ZAG (plE no inn td pa j) 2 [Value.func (Fn.func 274) #[] #[]]) (plE no inn td pa j) = plE no inn (updN td i 274) pa j := ZF5 no inn td pa i 274 j
theorem ZAy (no : Nat -> Nat) (inn : Nat -> Int) (td : Nat -> Nat) (pa : Nat -> Int) (i : Nat) (j : Nat) : mrgL (j = i) (ZAG (plE no inn td pa j) 2 [Value.func (Fn.func 277) #[] #[]]) (plE no inn td pa j) = plE no inn (updN td i 277) pa j := ZF5 no inn td pa i 277 j
theorem ZBE (no : Nat -> Nat) (inn : Nat -> Int) (td : Nat -> Nat) (pa : Nat -> Int) (i : Nat) (j : Nat) : mrgL (j = i) (ZAG (plE no inn td pa j) 2 [Value.func (Fn.func 280) #[] #[]]) (plE no inn td pa j) = plE no inn (updN td i 280) pa j := ZF5 no inn td pa i 280 j
theorem ZAp (no : Nat -> Nat) (inn : Nat -> Int) (td : Nat -> Nat) (pa : Nat -> Int) (i : Nat) (j : Nat) : mrgL (j = i) (ZAG (plE no inn td pa j) 2 [Value.func (Fn.func 276) #[] #[]]) (plE no inn td pa j) = plE no inn (updN td i 276) pa j := ZF5 no inn td pa i 276 j
theorem ZAz (no : Nat -> Nat) (inn : Nat -> Int) (td : Nat -> Nat) (pa : Nat -> Int) (i : Nat) (j : Nat) : mrgL (j = i) (ZAG (plE no inn td pa j) 2 [Value.func (Fn.func 279) #[] #[]]) (plE no inn td pa j) = plE no inn (updN td i 279) pa j := ZF5 no inn td pa i 279 j
theorem ZBW (no : Nat -> Nat) (inn : Nat -> Int) (td : Nat -> Nat) (pa : Nat -> Int) (i : Nat) (j : Nat) : mrgL (j = i) (ZAG (plE no inn td pa j) 2 [Value.func (Fn.func 284) #[] #[]]) (plE no inn td pa j) = plE no inn (updN td i 284) pa j := ZF5 no inn td pa i 284 j
theorem ZBX (no : Nat -> Nat) (inn : Nat -> Int) (td : Nat -> Nat) (pa : Nat -> Int) (i : Nat) (j : Nat) : mrgL (j = i) (ZAG (plE no inn td pa j) 2 [Value.nilFunc]) (plE no inn td pa j) = plE no inn (updN td i 0) pa j := ZF5 no inn td pa i 0 j
structure CoL (K : CK) (t : Nat) (lo : Nat -> K1) : Prop where
 c : K.no t < 8
 b : K.b (K.no t) = true
 cn : K.cn (K.no t) <= 64
 ok : (lo (K.no t)).ok (K.cn (K.no t))
 T : (lo (K.no t)).T = K.lT
structure CoG (K : CK) (g : K1) : Prop where
 ok : g.ok 8
 T : g.T = K.gT
def k1Lk (n : Nat) (S : K1) (t : Int) : K1 := S.set (lkSt n S.ss.st S.tm t (-1)) (lkDl n S.ss.st S.ss.dl S.tm t (-1))
def k1Ul (n : Nat) (S : K1) (t : Int) : K1 := S.set (ulSt n S.ss.st t 3) S.ss.dl
def k1Pr (n : Nat) (S : K1) (t : Int) : K1 := S.set (prSt n S.ss.st S.pr t) S.ss.dl
def coA (K : CK) (t : Nat) : Int := (K.M : Int) + (K.no t : Int)
def ZF6 (K : CK) (t : Nat) (L : CO) : CO := pick (decide (L.ss.st t = 3)) ⟨L.ss, updN L.td t 274, L.pa, L.g, L.lo⟩ ⟨L.ss, updN L.td t 275, L.pa, L.g, updK L.lo (K.no t) (k1Lk (K.cn (K.no t)) (L.lo (K.no t)) (K.inn t))⟩
def coLs (K : CK) (nw : Nat) (t ta : Nat) (now : Int) (L : CO) (s : PS) : Dd × K1 × PS := (L.lo (K.no t)).step (K.cn (K.no t)) nw (K.inn t) now ta s
def coGs (K : CK) (nw : Nat) (t ta : Nat) (now : Int) (L : CO) (s : PS) : Dd × K1 × PS := L.g.step 8 nw (K.no t : Int) now ta s
def ZF7 (K : CK) (t : Nat) (L : CO) (r : Dd × K1 × PS) : Dd × CO × PS := (⟨0, r.1.q, false, false⟩, ⟨L.ss, pick (decide (r.1.e = 1)) (updN L.td t 278) L.td, L.pa, L.g, updK L.lo (K.no t) r.2.1⟩, r.2.2)
def ZHG (K : CK) (nw t ta : Nat) (L : CO) (s : PS) : Dd × CO × PS :=
 pick (decide (rdV nw (coA K t) s = 0)) (evD 0, ⟨L.ss, updN L.td t 281, L.pa, k1Lk 8 L.g (K.no t : Int), L.lo⟩, rdS nw ta (coA K t) s) (evD 1, L, rdS nw ta (coA K t) s)
def ZI1 (t : Nat) (L : CO) (r : Dd × K1 × PS) : Dd × CO × PS := (⟨0, false, r.1.q, false⟩, ⟨L.ss, pick (decide (r.1.e = 1)) (updN L.td t 283) L.td, L.pa, r.2.1, L.lo⟩, r.2.2)
def ZF8 (K : CK) (nw t ta : Nat) (L : CO) (s : PS) : Dd × CO × PS := (⟨1, false, false, true⟩, L, wtS nw ta (coA K t) 1 s)
def ZFL (K : CK) (nw t ta : Nat) (L : CO) (s : PS) : Dd × CO × PS :=
 (evD 0, pick (decide (rdV nw (coA K t) s < K.bu)) ⟨L.ss, updN L.td t 277, updF L.pa t (rdV nw (coA K t) s), L.g, updK L.lo (K.no t) (k1Pr (K.cn (K.no t)) (L.lo (K.no t)) (K.inn t))⟩ ⟨L.ss, updN L.td t 276, updF L.pa t (rdV nw (coA K t) s), L.g, L.lo⟩, rdS nw ta (coA K t) s)
def ZF9 (K : CK) (t : Nat) (L : CO) (r : Dd × K1 × PS) : Dd × CO × PS := (evD 0, ⟨L.ss, updN L.td t (pick (decide (r.1.e = 5)) 280 276), L.pa, L.g, updK L.lo (K.no t) r.2.1⟩, r.2.2)
def ZHH (K : CK) (t : Nat) (L : CO) : CO := ⟨L.ss, updN L.td t 284, L.pa, L.g, updK L.lo (K.no t) (k1Ul (K.cn (K.no t)) (L.lo (K.no t)) (K.inn t))⟩
def ZI2 (K : CK) (nw t ta : Nat) (L : CO) (s : PS) : Dd × CO × PS := (evD 0, ZHH K t L, wtS nw ta (coA K t) (u32p (L.pa t)) s)
def ZEx (K : CK) (nw t ta : Nat) (L : CO) (s : PS) : Dd × CO × PS := (evD 0, ⟨L.ss, updN L.td t 279, L.pa, k1Ul 8 L.g (K.no t : Int), L.lo⟩, wtS nw ta (coA K t) 0 s)
def ZFM (K : CK) (t : Nat) (L : CO) (r : Dd × K1 × PS) : Dd × CO × PS := (evD 0, pick (decide (r.1.e = 3)) (ZHH K t ⟨L.ss, L.td, L.pa, r.2.1, L.lo⟩) ⟨L.ss, L.td, L.pa, r.2.1, L.lo⟩, r.2.2)
def ZNW (K : CK) (t : Nat) (L : CO) (r : Dd × K1 × PS) : Dd × CO × PS := (evD r.1.e, ⟨L.ss, L.td, L.pa, L.g, updK L.lo (K.no t) r.2.1⟩, r.2.2)
def ZKK (K : CK) (nw : Nat) (t ta : Nat) (now : Int) (L : CO) (s : PS) : Dd × CO × PS :=
 pick (decide (L.td t = 275)) (ZF7 K t L (coLs K nw t ta now L s)) (pick (decide (L.td t = 278)) (ZHG K nw t ta L s) (pick (decide (L.td t = 281)) (ZI1 t L (coGs K nw t ta now L s))
 (pick (decide (L.td t = 283)) (ZF8 K nw t ta L s) (pick (decide (L.td t = 274)) (ZFL K nw t ta L s) (pick (decide (L.td t = 277)) (ZF9 K t L (coLs K nw t ta now L s))
 (pick (decide (L.td t = 280)) (ZI2 K nw t ta L s) (pick (decide (L.td t = 276)) (ZEx K nw t ta L s) (pick (decide (L.td t = 279)) (ZFM K t L (coGs K nw t ta now L s)) (ZNW K t L (coLs K nw t ta now L s))))))))))
theorem ZI3 (K : CK) (m nt nw t ta : Nat) (now : Int) (hs : Nat -> Int) (L : CO) (s : PS) (ht : t < m) (hm : m <= 64) (hta : ta < nt) (hnt : nt <= 64) (hnw : nw <= 4096) (H : CoL K t L.lo) (HG : CoG K L.g) (hM : K.M <= 4096) :
  ZAC Tryz.prog 275 (cohG K m nt nw (K.no t) hs L s) 13 [.l (.p 0 0 0 0), .l (.p 4 4 t 0), .l (.v (.int .i64 ta)), .l (.v (.int .i64 now))] fun x h k =>
   x = didO (ZF7 K t L (coLs K nw t ta now L s)).1 /\ k = 13 /\ h = cohG K m nt nw (K.no t) hs (ZF7 K t L (coLs K nw t ta now L s)).2.1 (ZF7 K t L (coLs K nw t ta now L s)).2.2 := by
 have hc := H.c
 have hb := H.b
 have hst := ZHF (L.lo (K.no t)) (K.cn (K.no t)) nt nw ta (K.inn t) now hs s hta hnt H.cn hnw H.ok
 rw [H.T] at hst
 unfold ZF7
 change ZDk _ _ _ _ _ _ (fun x h k => x = didO (coLs K nw t ta now L s).1 /\ k = 2 /\ h = [(0, some (.ob [1] ((coLs K nw t ta now L s).2.1.R (K.cn (K.no t))))), (1, some (ZBK nt nw hs (coLs K nw t ta now L s).2.2))]) at hst
 generalize coLs K nw t ta now L s = r at hst ⊢
 by_cases e1 : r.1.e = 1
 ·simp only [e1, decide_true, pick]
  generalize hcc : K.no t = c at *
  have hci : (c : Int) < 8 := by omega
  rcases (show c = 0 \/ c = 1 \/ c = 2 \/ c = 3 \/ c = 4 \/ c = 5 \/ c = 6 \/ c = 7 by omega) with rfl | rfl | rfl | rfl | rfl | rfl | rfl | rfl
  all_goals
   refine sE Tryz.func275 ic275_eq [.ca 8 4] fun G hP hA => ?_
   unfold evF ic275
   conv => whnf
   refine gr1 hcc hst ?_
   refine fQ ?_ ?_
   ·rfl
   ·exact ⟨ZAA, rfl, ZAA, ZAA, ⟨rfl, rfl, fun j hj => by simp only [Nat.zero_add, ZAv, ZBC, ZBD, ZAw, ZAx, ZAy, ZBE, ZAp, ZAz, ZBW, ZBX, ZEv, ZEw, ZA1]⟩, ZAA, ZAA, ZAA, ZAA, ZAA, ZAA, ZAA, ZAA, trivial⟩
 ·simp only [e1, decide_false, pick]
  generalize hcc : K.no t = c at *
  have hci : (c : Int) < 8 := by omega
  rcases (show c = 0 \/ c = 1 \/ c = 2 \/ c = 3 \/ c = 4 \/ c = 5 \/ c = 6 \/ c = 7 by omega) with rfl | rfl | rfl | rfl | rfl | rfl | rfl | rfl
  all_goals
   refine sE Tryz.func275 ic275_eq [.ca 8 4] fun G hP hA => ?_
   unfold evF ic275
   conv => whnf
   refine gr1 hcc hst ?_
   refine fQ ?_ ?_
   ·rfl
   ·exact ⟨ZAA, rfl, ZAA, ZAA, ⟨rfl, rfl, fun j hj => by simp only [Nat.zero_add, ZAv, ZBC, ZBD, ZAw, ZAx, ZAy, ZBE, ZAp, ZAz, ZBW, ZBX, ZEv, ZEw, ZA1]⟩, ZAA, ZAA, ZAA, ZAA, ZAA, ZAA, ZAA, ZAA, trivial⟩
theorem ZKL (K : CK) (m nt nw t ta : Nat) (now : Int) (hs : Nat -> Int) (L : CO) (s : PS) (ht : t < m) (hm : m <= 64) (hta : ta < nt) (hnt : nt <= 64) (hnw : nw <= 4096) (H : CoL K t L.lo) (HG : CoG K L.g) (hM : K.M <= 4096) :
  ZAC Tryz.prog 278 (cohG K m nt nw (K.no t) hs L s) 13 [.l (.p 0 0 0 0), .l (.p 4 4 t 0), .l (.v (.int .i64 ta)), .l (.v (.int .i64 now))] fun x h k =>
   x = didO (ZHG K nw t ta L s).1 /\ k = 13 /\ h = cohG K m nt nw (K.no t) hs (ZHG K nw t ta L s).2.1 (ZHG K nw t ta L s).2.2 := by
 have hc := H.c
 have hb := H.b
 have h1 := ldS nt nw hs s ta (coA K t) hta hnt hnw
 have hlk := ZNV L.g 8 (K.no t : Int) (-1) (by omega)
 rw [HG.T] at hlk
 unfold ZHG
 by_cases e1 : rdV nw (coA K t) s = 0
 ·simp only [e1, decide_true, pick]
  unfold coA at *
  generalize hcc : K.no t = c at *
  have hci : (c : Int) < 8 := by omega
  rcases (show c = 0 \/ c = 1 \/ c = 2 \/ c = 3 \/ c = 4 \/ c = 5 \/ c = 6 \/ c = 7 by omega) with rfl | rfl | rfl | rfl | rfl | rfl | rfl | rfl
  all_goals
   refine sE Tryz.func278 ic278_eq [.ca 8 4] fun G hP hA => ?_
   unfold evF ic278
   conv => whnf
   refine gr2 hcc h1 hlk ?_
   refine fQ ?_ ?_
   ·rfl
   ·exact ⟨ZAA, rfl, ZAA, ZAA, ⟨rfl, rfl, fun j hj => by simp only [Nat.zero_add, ZAv, ZBC, ZBD, ZAw, ZAx, ZAy, ZBE, ZAp, ZAz, ZBW, ZBX, ZEv, ZEw, ZA1]⟩, ZAA, ZAA, ZAA, ZAA, ZAA, ZAA, ZAA, ZAA, trivial⟩
 ·simp only [e1, decide_false, pick]
  unfold coA at *
  generalize hcc : K.no t = c at *
  have hci : (c : Int) < 8 := by omega
  rcases (show c = 0 \/ c = 1 \/ c = 2 \/ c = 3 \/ c = 4 \/ c = 5 \/ c = 6 \/ c = 7 by omega) with rfl | rfl | rfl | rfl | rfl | rfl | rfl | rfl
  all_goals
   refine sE Tryz.func278 ic278_eq [.ca 8 4] fun G hP hA => ?_
   unfold evF ic278
   conv => whnf
   refine gr2 hcc h1 hlk ?_
   exact fA
theorem ZKM (K : CK) (m nt nw t ta : Nat) (now : Int) (hs : Nat -> Int) (L : CO) (s : PS) (ht : t < m) (hm : m <= 64) (hta : ta < nt) (hnt : nt <= 64) (hnw : nw <= 4096) (H : CoL K t L.lo) (HG : CoG K L.g) (hM : K.M <= 4096) :
  ZAC Tryz.prog 281 (cohG K m nt nw (K.no t) hs L s) 13 [.l (.p 0 0 0 0), .l (.p 4 4 t 0), .l (.v (.int .i64 ta)), .l (.v (.int .i64 now))] fun x h k =>
   x = didO (ZI1 t L (coGs K nw t ta now L s)).1 /\ k = 13 /\ h = cohG K m nt nw (K.no t) hs (ZI1 t L (coGs K nw t ta now L s)).2.1 (ZI1 t L (coGs K nw t ta now L s)).2.2 := by
 have hc := H.c
 have hb := H.b
 have hst := ZHF L.g 8 nt nw ta (K.no t : Int) now hs s hta hnt (by omega) hnw HG.ok
 rw [HG.T] at hst
 unfold ZI1
 change ZDk _ _ _ _ _ _ (fun x h k => x = didO (coGs K nw t ta now L s).1 /\ k = 2 /\ h = [(0, some (.ob [1] ((coGs K nw t ta now L s).2.1.R 8))), (1, some (ZBK nt nw hs (coGs K nw t ta now L s).2.2))]) at hst
 generalize coGs K nw t ta now L s = r at hst ⊢
 by_cases e1 : r.1.e = 1
 ·simp only [e1, decide_true, pick]
  generalize hcc : K.no t = c at *
  have hci : (c : Int) < 8 := by omega
  rcases (show c = 0 \/ c = 1 \/ c = 2 \/ c = 3 \/ c = 4 \/ c = 5 \/ c = 6 \/ c = 7 by omega) with rfl | rfl | rfl | rfl | rfl | rfl | rfl | rfl
  all_goals
   refine sE Tryz.func281 ic281_eq [.ca 8 4] fun G hP hA => ?_
   unfold evF ic281
   conv => whnf
   refine gr1 hcc hst ?_
   refine fQ ?_ ?_
   ·rfl
   ·exact ⟨ZAA, rfl, ZAA, ZAA, ⟨rfl, rfl, fun j hj => by simp only [Nat.zero_add, ZAv, ZBC, ZBD, ZAw, ZAx, ZAy, ZBE, ZAp, ZAz, ZBW, ZBX, ZEv, ZEw, ZA1]⟩, ZAA, ZAA, ZAA, ZAA, ZAA, ZAA, ZAA, ZAA, trivial⟩
 ·simp only [e1, decide_false, pick]
  generalize hcc : K.no t = c at *
  have hci : (c : Int) < 8 := by omega
  rcases (show c = 0 \/ c = 1 \/ c = 2 \/ c = 3 \/ c = 4 \/ c = 5 \/ c = 6 \/ c = 7 by omega) with rfl | rfl | rfl | rfl | rfl | rfl | rfl | rfl
  all_goals
   refine sE Tryz.func281 ic281_eq [.ca 8 4] fun G hP hA => ?_
   unfold evF ic281
   conv => whnf
   refine gr1 hcc hst ?_
   exact fA
theorem ZI4 (K : CK) (m nt nw t ta : Nat) (now : Int) (hs : Nat -> Int) (L : CO) (s : PS) (ht : t < m) (hm : m <= 64) (hta : ta < nt) (hnt : nt <= 64) (hnw : nw <= 4096) (H : CoL K t L.lo) (HG : CoG K L.g) (hM : K.M <= 4096) :
  ZAC Tryz.prog 283 (cohG K m nt nw (K.no t) hs L s) 13 [.l (.p 0 0 0 0), .l (.p 4 4 t 0), .l (.v (.int .i64 ta)), .l (.v (.int .i64 now))] fun x h k =>
   x = didO (ZF8 K nw t ta L s).1 /\ k = 13 /\ h = cohG K m nt nw (K.no t) hs (ZF8 K nw t ta L s).2.1 (ZF8 K nw t ta L s).2.2 := by
 have hc := H.c
 have hb := H.b
 have h1 := stS nt nw hs s ta (coA K t) 1 hta hnt hnw
 unfold ZF8
 unfold coA at *
 generalize hcc : K.no t = c at *
 have hci : (c : Int) < 8 := by omega
 rcases (show c = 0 \/ c = 1 \/ c = 2 \/ c = 3 \/ c = 4 \/ c = 5 \/ c = 6 \/ c = 7 by omega) with rfl | rfl | rfl | rfl | rfl | rfl | rfl | rfl
 all_goals
  refine sE Tryz.func283 ic283_eq [.ca 8 4] fun G hP hA => ?_
  unfold evF ic283
  conv => whnf
  refine gr1 hcc h1 ?_
  exact fA
theorem ZI5 (K : CK) (m nt nw t ta : Nat) (now : Int) (hs : Nat -> Int) (L : CO) (s : PS) (ht : t < m) (hm : m <= 64) (hta : ta < nt) (hnt : nt <= 64) (hnw : nw <= 4096) (H : CoL K t L.lo) (HG : CoG K L.g) (hM : K.M <= 4096) :
  ZAC Tryz.prog 274 (cohG K m nt nw (K.no t) hs L s) 13 [.l (.p 0 0 0 0), .l (.p 4 4 t 0), .l (.v (.int .i64 ta)), .l (.v (.int .i64 now))] fun x h k =>
   x = didO (ZFL K nw t ta L s).1 /\ k = 13 /\ h = cohG K m nt nw (K.no t) hs (ZFL K nw t ta L s).2.1 (ZFL K nw t ta L s).2.2 := by
 have hc := H.c
 have hb := H.b
 have h1 := ldS nt nw hs s ta (coA K t) hta hnt hnw
 have hpr := ZPh (L.lo (K.no t)) (K.cn (K.no t)) (K.inn t) H.cn
 rw [H.T] at hpr
 unfold ZFL
 by_cases e1 : rdV nw (coA K t) s < K.bu
 ·simp only [e1, decide_true, pick]
  unfold coA at *
  generalize hcc : K.no t = c at *
  have hci : (c : Int) < 8 := by omega
  rcases (show c = 0 \/ c = 1 \/ c = 2 \/ c = 3 \/ c = 4 \/ c = 5 \/ c = 6 \/ c = 7 by omega) with rfl | rfl | rfl | rfl | rfl | rfl | rfl | rfl
  all_goals
   refine sE Tryz.func274 ic274_eq [.ca 8 4] fun G hP hA => ?_
   unfold evF ic274
   conv => whnf
   refine gr2 hcc h1 hpr ?_
   refine fQ ?_ ?_
   ·rfl
   ·exact ⟨ZAA, rfl, ZAA, ZAA, ⟨rfl, rfl, fun j hj => by simp only [Nat.zero_add, ZAv, ZBC, ZBD, ZAw, ZAx, ZAy, ZBE, ZAp, ZAz, ZBW, ZBX, ZEv, ZEw, ZA1]⟩, ZAA, ZAA, ZAA, ZAA, ZAA, ZAA, ZAA, ZAA, trivial⟩
 ·simp only [e1, decide_false, pick]
  unfold coA at *
  generalize hcc : K.no t = c at *
  have hci : (c : Int) < 8 := by omega
  rcases (show c = 0 \/ c = 1 \/ c = 2 \/ c = 3 \/ c = 4 \/ c = 5 \/ c = 6 \/ c = 7 by omega) with rfl | rfl | rfl | rfl | rfl | rfl | rfl | rfl
  all_goals
   refine sE Tryz.func274 ic274_eq [.ca 8 4] fun G hP hA => ?_
   unfold evF ic274
   conv => whnf
   refine gr2 hcc h1 hpr ?_
   refine fQ ?_ ?_
   ·rfl
   ·exact ⟨ZAA, rfl, ZAA, ZAA, ⟨rfl, rfl, fun j hj => by simp only [Nat.zero_add, ZAv, ZBC, ZBD, ZAw, ZAx, ZAy, ZBE, ZAp, ZAz, ZBW, ZBX, ZEv, ZEw, ZA1]⟩, ZAA, ZAA, ZAA, ZAA, ZAA, ZAA, ZAA, ZAA, trivial⟩
theorem ZI6 (K : CK) (m nt nw t ta : Nat) (now : Int) (hs : Nat -> Int) (L : CO) (s : PS) (ht : t < m) (hm : m <= 64) (hta : ta < nt) (hnt : nt <= 64) (hnw : nw <= 4096) (H : CoL K t L.lo) (HG : CoG K L.g) (hM : K.M <= 4096) :
  ZAC Tryz.prog 277 (cohG K m nt nw (K.no t) hs L s) 13 [.l (.p 0 0 0 0), .l (.p 4 4 t 0), .l (.v (.int .i64 ta)), .l (.v (.int .i64 now))] fun x h k =>
   x = didO (ZF9 K t L (coLs K nw t ta now L s)).1 /\ k = 13 /\ h = cohG K m nt nw (K.no t) hs (ZF9 K t L (coLs K nw t ta now L s)).2.1 (ZF9 K t L (coLs K nw t ta now L s)).2.2 := by
 have hc := H.c
 have hb := H.b
 have hst := ZHF (L.lo (K.no t)) (K.cn (K.no t)) nt nw ta (K.inn t) now hs s hta hnt H.cn hnw H.ok
 rw [H.T] at hst
 unfold ZF9
 change ZDk _ _ _ _ _ _ (fun x h k => x = didO (coLs K nw t ta now L s).1 /\ k = 2 /\ h = [(0, some (.ob [1] ((coLs K nw t ta now L s).2.1.R (K.cn (K.no t))))), (1, some (ZBK nt nw hs (coLs K nw t ta now L s).2.2))]) at hst
 generalize coLs K nw t ta now L s = r at hst ⊢
 by_cases e1 : r.1.e = 5
 ·simp only [e1, decide_true, pick]
  generalize hcc : K.no t = c at *
  have hci : (c : Int) < 8 := by omega
  rcases (show c = 0 \/ c = 1 \/ c = 2 \/ c = 3 \/ c = 4 \/ c = 5 \/ c = 6 \/ c = 7 by omega) with rfl | rfl | rfl | rfl | rfl | rfl | rfl | rfl
  all_goals
   refine sE Tryz.func277 ic277_eq [.ca 8 4] fun G hP hA => ?_
   unfold evF ic277
   conv => whnf
   refine gr1 hcc hst ?_
   refine fQ ?_ ?_
   ·rfl
   ·exact ⟨ZAA, rfl, ZAA, ZAA, ⟨rfl, rfl, fun j hj => by simp only [Nat.zero_add, ZAv, ZBC, ZBD, ZAw, ZAx, ZAy, ZBE, ZAp, ZAz, ZBW, ZBX, ZEv, ZEw, ZA1]⟩, ZAA, ZAA, ZAA, ZAA, ZAA, ZAA, ZAA, ZAA, trivial⟩
 ·simp only [e1, decide_false, pick]
  generalize hcc : K.no t = c at *
  have hci : (c : Int) < 8 := by omega
  rcases (show c = 0 \/ c = 1 \/ c = 2 \/ c = 3 \/ c = 4 \/ c = 5 \/ c = 6 \/ c = 7 by omega) with rfl | rfl | rfl | rfl | rfl | rfl | rfl | rfl
  all_goals
   refine sE Tryz.func277 ic277_eq [.ca 8 4] fun G hP hA => ?_
   unfold evF ic277
   conv => whnf
   refine gr1 hcc hst ?_
   refine fQ ?_ ?_
   ·rfl
   ·exact ⟨ZAA, rfl, ZAA, ZAA, ⟨rfl, rfl, fun j hj => by simp only [Nat.zero_add, ZAv, ZBC, ZBD, ZAw, ZAx, ZAy, ZBE, ZAp, ZAz, ZBW, ZBX, ZEv, ZEw, ZA1]⟩, ZAA, ZAA, ZAA, ZAA, ZAA, ZAA, ZAA, ZAA, trivial⟩
theorem ZGA (K : CK) (m nt nw t ta : Nat) (now : Int) (hs : Nat -> Int) (L : CO) (s : PS) (ht : t < m) (hm : m <= 64) (hta : ta < nt) (hnt : nt <= 64) (hnw : nw <= 4096) (H : CoL K t L.lo) :
  ZAC Tryz.prog 282 (cohG K m nt nw (K.no t) hs L s) 13 [.l (.p 0 0 0 0), .l (.p 4 4 t 0)] fun x h k =>
   x = didO (evD 0) /\ k = 13 /\ h = cohG K m nt nw (K.no t) hs (ZHH K t L) s := by
 have hc := H.c
 have hb := H.b
 have hul := ZHn (L.lo (K.no t)) (K.cn (K.no t)) (K.inn t) H.cn
 rw [H.T] at hul
 unfold ZHH
 generalize hcc : K.no t = c at *
 have hci : (c : Int) < 8 := by omega
 rcases (show c = 0 \/ c = 1 \/ c = 2 \/ c = 3 \/ c = 4 \/ c = 5 \/ c = 6 \/ c = 7 by omega) with rfl | rfl | rfl | rfl | rfl | rfl | rfl | rfl
 all_goals
  refine sE Tryz.func282 ic282_eq [.ca 4 4] fun G hP hA => ?_
  unfold evF ic282
  conv => whnf
  refine gr1 hcc hul ?_
  refine fQ ?_ ?_
  ·rfl
  ·exact ⟨ZAA, rfl, ZAA, ZAA, ⟨rfl, rfl, fun j hj => by simp only [Nat.zero_add, ZAv, ZBC, ZBD, ZAw, ZAx, ZAy, ZBE, ZAp, ZAz, ZBW, ZBX, ZEv, ZEw, ZA1]⟩, ZAA, ZAA, ZAA, ZAA, ZAA, ZAA, ZAA, ZAA, trivial⟩
theorem ZL6 (K : CK) (m nt nw t ta : Nat) (now : Int) (hs : Nat -> Int) (L : CO) (s : PS) (ht : t < m) (hm : m <= 64) (hta : ta < nt) (hnt : nt <= 64) (hnw : nw <= 4096) (H : CoL K t L.lo) (HG : CoG K L.g) (hM : K.M <= 4096) :
  ZAC Tryz.prog 284 (cohG K m nt nw (K.no t) hs L s) 13 [.l (.p 0 0 0 0), .l (.p 4 4 t 0), .l (.v (.int .i64 ta)), .l (.v (.int .i64 now))] fun x h k =>
   x = didO (ZNW K t L (coLs K nw t ta now L s)).1 /\ k = 13 /\ h = cohG K m nt nw (K.no t) hs (ZNW K t L (coLs K nw t ta now L s)).2.1 (ZNW K t L (coLs K nw t ta now L s)).2.2 := by
 have hc := H.c
 have hb := H.b
 have hst := ZHF (L.lo (K.no t)) (K.cn (K.no t)) nt nw ta (K.inn t) now hs s hta hnt H.cn hnw H.ok
 rw [H.T] at hst
 unfold ZNW
 change ZDk _ _ _ _ _ _ (fun x h k => x = didO (coLs K nw t ta now L s).1 /\ k = 2 /\ h = [(0, some (.ob [1] ((coLs K nw t ta now L s).2.1.R (K.cn (K.no t))))), (1, some (ZBK nt nw hs (coLs K nw t ta now L s).2.2))]) at hst
 generalize coLs K nw t ta now L s = r at hst ⊢
 generalize hcc : K.no t = c at *
 have hci : (c : Int) < 8 := by omega
 rcases (show c = 0 \/ c = 1 \/ c = 2 \/ c = 3 \/ c = 4 \/ c = 5 \/ c = 6 \/ c = 7 by omega) with rfl | rfl | rfl | rfl | rfl | rfl | rfl | rfl
 all_goals
  refine sE Tryz.func284 ic284_eq [.ca 8 4] fun G hP hA => ?_
  unfold evF ic284
  conv => whnf
  refine gr1 hcc hst ?_
  exact fA
theorem ZHs (K : CK) (m nt nw t ta : Nat) (now : Int) (hs : Nat -> Int) (L : CO) (s : PS) (ht : t < m) (hm : m <= 64) (hta : ta < nt) (hnt : nt <= 64) (hnw : nw <= 4096) (H : CoL K t L.lo) (HG : CoG K L.g) (hM : K.M <= 4096) :
  ZAC Tryz.prog 276 (cohG K m nt nw (K.no t) hs L s) 13 [.l (.p 0 0 0 0), .l (.p 4 4 t 0), .l (.v (.int .i64 ta)), .l (.v (.int .i64 now))] fun x h k =>
   x = didO (ZEx K nw t ta L s).1 /\ k = 13 /\ h = cohG K m nt nw (K.no t) hs (ZEx K nw t ta L s).2.1 (ZEx K nw t ta L s).2.2 := by
 have hc := H.c
 have hb := H.b
 have h1 := stS nt nw hs s ta (coA K t) 0 hta hnt hnw
 have hul := ZHn L.g 8 (K.no t : Int) (by omega)
 rw [HG.T] at hul
 unfold ZEx
 unfold coA at *
 generalize hcc : K.no t = c at *
 have hci : (c : Int) < 8 := by omega
 rcases (show c = 0 \/ c = 1 \/ c = 2 \/ c = 3 \/ c = 4 \/ c = 5 \/ c = 6 \/ c = 7 by omega) with rfl | rfl | rfl | rfl | rfl | rfl | rfl | rfl
 all_goals
  refine sE Tryz.func276 ic276_eq [.ca 8 4] fun G hP hA => ?_
  unfold evF ic276
  conv => whnf
  refine gr2 hcc h1 hul ?_
  refine fQ ?_ ?_
  ·rfl
  ·exact ⟨ZAA, rfl, ZAA, ZAA, ⟨rfl, rfl, fun j hj => by simp only [Nat.zero_add, ZAv, ZBC, ZBD, ZAw, ZAx, ZAy, ZBE, ZAp, ZAz, ZBW, ZBX, ZEv, ZEw, ZA1]⟩, ZAA, ZAA, ZAA, ZAA, ZAA, ZAA, ZAA, ZAA, trivial⟩
theorem ZKN (K : CK) (m nt nw t ta : Nat) (now : Int) (hs : Nat -> Int) (L : CO) (s : PS) (ht : t < m) (hm : m <= 64) (hta : ta < nt) (hnt : nt <= 64) (hnw : nw <= 4096) (H : CoL K t L.lo) (HG : CoG K L.g) (hM : K.M <= 4096) :
  ZAC Tryz.prog 280 (cohG K m nt nw (K.no t) hs L s) 13 [.l (.p 0 0 0 0), .l (.p 4 4 t 0), .l (.v (.int .i64 ta)), .l (.v (.int .i64 now))] fun x h k =>
   x = didO (ZI2 K nw t ta L s).1 /\ k = 13 /\ h = cohG K m nt nw (K.no t) hs (ZI2 K nw t ta L s).2.1 (ZI2 K nw t ta L s).2.2 := by
 have hc := H.c
 have hb := H.b
 have h1 := stS nt nw hs s ta (coA K t) (u32p (L.pa t)) hta hnt hnw
 have hcl := ZGA K m nt nw t ta now hs L (wtS nw ta (coA K t) (u32p (L.pa t)) s) ht hm hta hnt hnw H
 unfold ZI2
 generalize ZHH K t L = L2 at hcl ⊢
 unfold coA at *
 generalize hcc : K.no t = c at *
 have hci : (c : Int) < 8 := by omega
 rcases (show c = 0 \/ c = 1 \/ c = 2 \/ c = 3 \/ c = 4 \/ c = 5 \/ c = 6 \/ c = 7 by omega) with rfl | rfl | rfl | rfl | rfl | rfl | rfl | rfl
 all_goals
  refine sE Tryz.func280 ic280_eq [.ca 8 4] fun G hP hA => ?_
  unfold evF ic280
  conv => whnf
  (repeat (first | (rw [hcc]) | (((refine ZDr hP hcl [0, 1, 2, 3, 4, 5, 6, 7, 8, 9, 10, 11, 12] rfl rfl rfl (by exact ZAA) rfl rfl ?_); conv => whnf)) | ((first | refine aI ?_ | refine a64 ?_ | refine a32 ?_ | refine dY ?_ | refine dN ?_ | refine ZAF ?_ | refine dI hP ?_); conv => whnf) | (refine And.intro (by (conv => whnf); first | exact ⟨rfl, rfl, rfl⟩ | (refine And.intro (by (first | omega | assumption | (simp only [ZAI]; omega) | (simp [ZAI]; omega))) ?_; (conv => whnf); first | exact ⟨rfl, rfl, rfl⟩ | (refine ⟨?_, ?_, ?_⟩ <;> first | rfl | (rw [ZAk]; first | done | rfl) | (rw [hcc]; first | done | rfl))) | (refine ⟨?_, ?_, ?_⟩ <;> first | rfl | (rw [ZAk]; first | done | rfl) | (rw [hcc]; first | done | rfl))) ?_; conv => whnf) | rw [natI] | rw [ZAk] | ((first | refine ZBr hP h1 ?_ | refine ZBT hP h1 ?_); (conv => whnf); refine zA ?_; conv => whnf) | (refine arW ?_; conv => whnf)))
  exact fA
theorem ZI7 (K : CK) (m nt nw t ta : Nat) (now : Int) (hs : Nat -> Int) (L : CO) (s : PS) (ht : t < m) (hm : m <= 64) (hta : ta < nt) (hnt : nt <= 64) (hnw : nw <= 4096) (H : CoL K t L.lo) (HG : CoG K L.g) (hM : K.M <= 4096) :
  ZAC Tryz.prog 279 (cohG K m nt nw (K.no t) hs L s) 13 [.l (.p 0 0 0 0), .l (.p 4 4 t 0), .l (.v (.int .i64 ta)), .l (.v (.int .i64 now))] fun x h k =>
   x = didO (ZFM K t L (coGs K nw t ta now L s)).1 /\ k = 13 /\ h = cohG K m nt nw (K.no t) hs (ZFM K t L (coGs K nw t ta now L s)).2.1 (ZFM K t L (coGs K nw t ta now L s)).2.2 := by
 have hc := H.c
 have hb := H.b
 have hst := ZHF L.g 8 nt nw ta (K.no t : Int) now hs s hta hnt (by omega) hnw HG.ok
 rw [HG.T] at hst
 unfold ZFM
 change ZDk _ _ _ _ _ _ (fun x h k => x = didO (coGs K nw t ta now L s).1 /\ k = 2 /\ h = [(0, some (.ob [1] ((coGs K nw t ta now L s).2.1.R 8))), (1, some (ZBK nt nw hs (coGs K nw t ta now L s).2.2))]) at hst
 generalize coGs K nw t ta now L s = r at hst ⊢
 have hcl := ZGA K m nt nw t ta now hs ⟨L.ss, L.td, L.pa, r.2.1, L.lo⟩ r.2.2 ht hm hta hnt hnw H
 by_cases e1 : r.1.e = 3
 ·simp only [e1, decide_true, pick]
  generalize ZHH K t ⟨L.ss, L.td, L.pa, r.2.1, L.lo⟩ = L2 at hcl ⊢
  generalize hcc : K.no t = c at *
  have hci : (c : Int) < 8 := by omega
  rcases (show c = 0 \/ c = 1 \/ c = 2 \/ c = 3 \/ c = 4 \/ c = 5 \/ c = 6 \/ c = 7 by omega) with rfl | rfl | rfl | rfl | rfl | rfl | rfl | rfl
  all_goals
   refine sE Tryz.func279 ic279_eq [.ca 8 4] fun G hP hA => ?_
   unfold evF ic279
   conv => whnf
   (repeat (first | (rw [hcc]) | (((refine ZDr hP hcl [0, 1, 2, 3, 4, 5, 6, 7, 8, 9, 10, 11, 12] rfl rfl rfl (by exact ZAA) rfl rfl ?_); conv => whnf)) | ((first | refine aI ?_ | refine a64 ?_ | refine a32 ?_ | refine dY ?_ | refine dN ?_ | refine ZAF ?_ | refine dI hP ?_); conv => whnf) | (refine And.intro (by (conv => whnf); first | exact ⟨rfl, rfl, rfl⟩ | (refine And.intro (by (first | omega | assumption | (simp only [ZAI]; omega) | (simp [ZAI]; omega))) ?_; (conv => whnf); first | exact ⟨rfl, rfl, rfl⟩ | (refine ⟨?_, ?_, ?_⟩ <;> first | rfl | (rw [ZAk]; first | done | rfl) | (rw [hcc]; first | done | rfl))) | (refine ⟨?_, ?_, ?_⟩ <;> first | rfl | (rw [ZAk]; first | done | rfl) | (rw [hcc]; first | done | rfl))) ?_; conv => whnf) | rw [natI] | rw [ZAk] | ((first | refine ZLk hP hst ?_ | refine ZJv hP hst ?_); (conv => whnf); refine zA ?_; conv => whnf) | (refine arW ?_; conv => whnf)))
   exact fA
 ·simp only [e1, decide_false, pick]
  generalize hcc : K.no t = c at *
  have hci : (c : Int) < 8 := by omega
  rcases (show c = 0 \/ c = 1 \/ c = 2 \/ c = 3 \/ c = 4 \/ c = 5 \/ c = 6 \/ c = 7 by omega) with rfl | rfl | rfl | rfl | rfl | rfl | rfl | rfl
  all_goals
   refine sE Tryz.func279 ic279_eq [.ca 8 4] fun G hP hA => ?_
   unfold evF ic279
   conv => whnf
   refine gr1 hcc hst ?_
   exact fA
theorem ZHt (K : CK) (m nt nw t ta : Nat) (now : Int) (hs : Nat -> Int) (L : CO) (s : PS) (ht : t < m) (hm : m <= 64) (hta : ta < nt) (hnt : nt <= 64) (hnw : nw <= 4096) (H : CoL K t L.lo) :
  ZAC Tryz.prog 273 (cohG K m nt nw (K.no t) hs L s) 13 [.l (.p 0 0 0 0), .l (.p 4 4 t 0), .l (.v (.int .i64 3))] fun x h k =>
   x = .t [] /\ k = 13 /\ h = cohG K m nt nw (K.no t) hs ⟨L.ss, updN L.td t 274, L.pa, L.g, L.lo⟩ s := by
 have hc := H.c
 have hb := H.b
 generalize hcc : K.no t = c at *
 have hci : (c : Int) < 8 := by omega
 rcases (show c = 0 \/ c = 1 \/ c = 2 \/ c = 3 \/ c = 4 \/ c = 5 \/ c = 6 \/ c = 7 by omega) with rfl | rfl | rfl | rfl | rfl | rfl | rfl | rfl
 all_goals
  refine sE Tryz.func273 ic273_eq [] fun G hP hA => ?_
  unfold evF ic273
  conv => whnf
  refine gr0 hcc ?_
  refine fQ ?_ ?_
  ·rfl
  ·exact ⟨ZAA, rfl, ZAA, ZAA, ⟨rfl, rfl, fun j hj => by simp only [Nat.zero_add, ZAv, ZBC, ZBD, ZAw, ZAx, ZAy, ZBE, ZAp, ZAz, ZBW, ZBX, ZEv, ZEw, ZA1]⟩, ZAA, ZAA, ZAA, ZAA, ZAA, ZAA, ZAA, ZAA, trivial⟩
theorem ZHu (K : CK) (m nt nw t ta : Nat) (now : Int) (hs : Nat -> Int) (L : CO) (s : PS) (ht : t < m) (hm : m <= 64) (hta : ta < nt) (hnt : nt <= 64) (hnw : nw <= 4096) (H : CoL K t L.lo) :
  ZAC Tryz.prog 273 (cohG K m nt nw (K.no t) hs L s) 13 [.l (.p 0 0 0 0), .l (.p 4 4 t 0), .l (.v (.int .i64 1))] fun x h k =>
   x = .t [] /\ k = 13 /\ h = cohG K m nt nw (K.no t) hs ⟨L.ss, updN L.td t 275, L.pa, L.g, updK L.lo (K.no t) (k1Lk (K.cn (K.no t)) (L.lo (K.no t)) (K.inn t))⟩ s := by
 have hc := H.c
 have hb := H.b
 have hlk := ZNV (L.lo (K.no t)) (K.cn (K.no t)) (K.inn t) (-1) H.cn
 rw [H.T] at hlk
 generalize hcc : K.no t = c at *
 have hci : (c : Int) < 8 := by omega
 rcases (show c = 0 \/ c = 1 \/ c = 2 \/ c = 3 \/ c = 4 \/ c = 5 \/ c = 6 \/ c = 7 by omega) with rfl | rfl | rfl | rfl | rfl | rfl | rfl | rfl
 all_goals
  refine sE Tryz.func273 ic273_eq [] fun G hP hA => ?_
  unfold evF ic273
  conv => whnf
  refine gr1 hcc hlk ?_
  refine fQ ?_ ?_
  ·rfl
  ·exact ⟨ZAA, rfl, ZAA, ZAA, ⟨rfl, rfl, fun j hj => by simp only [Nat.zero_add, ZAv, ZBC, ZBD, ZAw, ZAx, ZAy, ZBE, ZAp, ZAz, ZBW, ZBX, ZEv, ZEw, ZA1]⟩, ZAA, ZAA, ZAA, ZAA, ZAA, ZAA, ZAA, ZAA, trivial⟩
end Go.Proofs.YtlkfolopbehikaaGreat
