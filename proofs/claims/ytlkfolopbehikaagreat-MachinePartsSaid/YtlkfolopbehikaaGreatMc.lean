/- part · part · part · part · part · part · part · part · part · part · part · part · part · part · part · part · part · part · part · part · part · part · part · part · part · part · part · part · part · part · part · part -/
import Derived.Test.YtlkfolopbehikaaGreatMb
import Derived.Test.YtlkfolopbehikaaGreatMa
import Derived.Test.YtlkfolopbehikaaGreatSxPS
import Derived.Test.YtlkfolopbehikaaGreatSxV
set_option linter.unusedSimpArgs false
set_option linter.unusedVariables false
set_option maxHeartbeats 8000000
set_option maxRecDepth 8000
namespace Go.Proofs.YtlkfolopbehikaaGreat
open Go Go.Sx
theorem ZAQ.has {h h' : Heap} {n : Nat} (hall : ZBJ id h h') : ZAQ h n h' n := by
 have get : ∀ k e, hget h' k = some e -> ∃ e', hget h k = some e' /\ ZCU id e' e := fun k e hk => hall.get (ZAg hk)
 refine ⟨Nat.le_refl _, fun ρ φ w hm => ⟨ρ, φ, fun _ _ => rfl, ⟨fun k e hk => ?_, fun k e hk => ?_, fun k k' e e' hk hk' hne ho b hb hb' => ?_, fun k e hk b hb => ?_⟩, fun k e hk ho b hb => ?_, fun k e hk b hb => ?_⟩⟩
 ·obtain ⟨e', h1, h2⟩ := get k e hk
  exact ZCU.at_ (ι := id) h2 (fun _ h => h) (hm.at_ k e' h1)
 ·obtain ⟨e', h1, h2⟩ := get k e hk
  exact hm.lt k e' h1
 ·obtain ⟨e1, h1, h2⟩ := get k e hk
  obtain ⟨e2, h3, h4⟩ := get k' e' hk'
  exact hm.dj k k' e1 e2 h1 h3 hne (h2.own ho) b hb hb'
 ·obtain ⟨e', h1, h2⟩ := get k e hk
  exact hm.sz k e' h1 b hb
 ·obtain ⟨e', h1, h2⟩ := get k e hk
  exact ⟨k, e', h1, h2.own ho, hb⟩
 ·obtain ⟨e', h1, h2⟩ := get k e hk
  exact ⟨k, e', h1, hb⟩
theorem ZPj (K : CK) (m nt nw c : Nat) (hs : Nat -> Int) (L : CO) (s : PS) (hc : c < 8) (hb : K.b c = true) : ZAQ (cohG K m nt nw 8 hs L s) 13 (cohG K m nt nw c hs L s) 13 := by
 rcases (show c = 0 \/ c = 1 \/ c = 2 \/ c = 3 \/ c = 4 \/ c = 5 \/ c = 6 \/ c = 7 by omega) with rfl | rfl | rfl | rfl | rfl | rfl | rfl | rfl
 ·exact (ZAQ.cell 0 5 (.i K.lT 5) (x := .io (K.b 0) K.lT 5) rfl rfl (fun ρ => by simp [LV.at, ioC, hb]) (fun ρ h => h)).trans (ZAQ.has ⟨ZAA, rfl, ZAA, ZAA, ZAA, ⟨rfl, .inr ⟨fun ls => K1.stable _ _ ls, fun ls l F w h => h.1 hb⟩⟩, ZAA, ZAA, ZAA, ZAA, ZAA, ZAA, ZAA, trivial⟩)
 ·exact (ZAQ.cell 0 6 (.i K.lT 6) (x := .io (K.b 1) K.lT 6) rfl rfl (fun ρ => by simp [LV.at, ioC, hb]) (fun ρ h => h)).trans (ZAQ.has ⟨ZAA, rfl, ZAA, ZAA, ZAA, ZAA, ⟨rfl, .inr ⟨fun ls => K1.stable _ _ ls, fun ls l F w h => h.1 hb⟩⟩, ZAA, ZAA, ZAA, ZAA, ZAA, ZAA, trivial⟩)
 ·exact (ZAQ.cell 0 7 (.i K.lT 7) (x := .io (K.b 2) K.lT 7) rfl rfl (fun ρ => by simp [LV.at, ioC, hb]) (fun ρ h => h)).trans (ZAQ.has ⟨ZAA, rfl, ZAA, ZAA, ZAA, ZAA, ZAA, ⟨rfl, .inr ⟨fun ls => K1.stable _ _ ls, fun ls l F w h => h.1 hb⟩⟩, ZAA, ZAA, ZAA, ZAA, ZAA, trivial⟩)
 ·exact (ZAQ.cell 0 8 (.i K.lT 8) (x := .io (K.b 3) K.lT 8) rfl rfl (fun ρ => by simp [LV.at, ioC, hb]) (fun ρ h => h)).trans (ZAQ.has ⟨ZAA, rfl, ZAA, ZAA, ZAA, ZAA, ZAA, ZAA, ⟨rfl, .inr ⟨fun ls => K1.stable _ _ ls, fun ls l F w h => h.1 hb⟩⟩, ZAA, ZAA, ZAA, ZAA, trivial⟩)
 ·exact (ZAQ.cell 0 9 (.i K.lT 9) (x := .io (K.b 4) K.lT 9) rfl rfl (fun ρ => by simp [LV.at, ioC, hb]) (fun ρ h => h)).trans (ZAQ.has ⟨ZAA, rfl, ZAA, ZAA, ZAA, ZAA, ZAA, ZAA, ZAA, ⟨rfl, .inr ⟨fun ls => K1.stable _ _ ls, fun ls l F w h => h.1 hb⟩⟩, ZAA, ZAA, ZAA, trivial⟩)
 ·exact (ZAQ.cell 0 10 (.i K.lT 10) (x := .io (K.b 5) K.lT 10) rfl rfl (fun ρ => by simp [LV.at, ioC, hb]) (fun ρ h => h)).trans (ZAQ.has ⟨ZAA, rfl, ZAA, ZAA, ZAA, ZAA, ZAA, ZAA, ZAA, ZAA, ⟨rfl, .inr ⟨fun ls => K1.stable _ _ ls, fun ls l F w h => h.1 hb⟩⟩, ZAA, ZAA, trivial⟩)
 ·exact (ZAQ.cell 0 11 (.i K.lT 11) (x := .io (K.b 6) K.lT 11) rfl rfl (fun ρ => by simp [LV.at, ioC, hb]) (fun ρ h => h)).trans (ZAQ.has ⟨ZAA, rfl, ZAA, ZAA, ZAA, ZAA, ZAA, ZAA, ZAA, ZAA, ZAA, ⟨rfl, .inr ⟨fun ls => K1.stable _ _ ls, fun ls l F w h => h.1 hb⟩⟩, ZAA, trivial⟩)
 ·exact (ZAQ.cell 0 12 (.i K.lT 12) (x := .io (K.b 7) K.lT 12) rfl rfl (fun ρ => by simp [LV.at, ioC, hb]) (fun ρ h => h)).trans (ZAQ.has ⟨ZAA, rfl, ZAA, ZAA, ZAA, ZAA, ZAA, ZAA, ZAA, ZAA, ZAA, ZAA, ⟨rfl, .inr ⟨fun ls => K1.stable _ _ ls, fun ls l F w h => h.1 hb⟩⟩, trivial⟩)
theorem ZOl (K : CK) (m nt nw c : Nat) (hs : Nat -> Int) (L : CO) (s : PS) (hc : c < 8) (hb : K.b c = true) : ZAQ (cohG K m nt nw c hs L s) 13 (cohG K m nt nw 8 hs L s) 13 := by
 rcases (show c = 0 \/ c = 1 \/ c = 2 \/ c = 3 \/ c = 4 \/ c = 5 \/ c = 6 \/ c = 7 by omega) with rfl | rfl | rfl | rfl | rfl | rfl | rfl | rfl
 ·exact (ZAQ.cell 0 5 (.io (K.b 0) K.lT 5) (x := .i K.lT 5) rfl rfl (fun ρ => by simp [LV.at, ioC, hb]) (fun ρ h => h)).trans (ZAQ.has ⟨ZAA, rfl, ZAA, ZAA, ZAA, ⟨rfl, .inr ⟨fun ls => ZAH (fun ls => K1.stable _ _ ls) ls, fun ls l F w h => ZA3 hb h⟩⟩, ZAA, ZAA, ZAA, ZAA, ZAA, ZAA, ZAA, trivial⟩)
 ·exact (ZAQ.cell 0 6 (.io (K.b 1) K.lT 6) (x := .i K.lT 6) rfl rfl (fun ρ => by simp [LV.at, ioC, hb]) (fun ρ h => h)).trans (ZAQ.has ⟨ZAA, rfl, ZAA, ZAA, ZAA, ZAA, ⟨rfl, .inr ⟨fun ls => ZAH (fun ls => K1.stable _ _ ls) ls, fun ls l F w h => ZA3 hb h⟩⟩, ZAA, ZAA, ZAA, ZAA, ZAA, ZAA, trivial⟩)
 ·exact (ZAQ.cell 0 7 (.io (K.b 2) K.lT 7) (x := .i K.lT 7) rfl rfl (fun ρ => by simp [LV.at, ioC, hb]) (fun ρ h => h)).trans (ZAQ.has ⟨ZAA, rfl, ZAA, ZAA, ZAA, ZAA, ZAA, ⟨rfl, .inr ⟨fun ls => ZAH (fun ls => K1.stable _ _ ls) ls, fun ls l F w h => ZA3 hb h⟩⟩, ZAA, ZAA, ZAA, ZAA, ZAA, trivial⟩)
 ·exact (ZAQ.cell 0 8 (.io (K.b 3) K.lT 8) (x := .i K.lT 8) rfl rfl (fun ρ => by simp [LV.at, ioC, hb]) (fun ρ h => h)).trans (ZAQ.has ⟨ZAA, rfl, ZAA, ZAA, ZAA, ZAA, ZAA, ZAA, ⟨rfl, .inr ⟨fun ls => ZAH (fun ls => K1.stable _ _ ls) ls, fun ls l F w h => ZA3 hb h⟩⟩, ZAA, ZAA, ZAA, ZAA, trivial⟩)
 ·exact (ZAQ.cell 0 9 (.io (K.b 4) K.lT 9) (x := .i K.lT 9) rfl rfl (fun ρ => by simp [LV.at, ioC, hb]) (fun ρ h => h)).trans (ZAQ.has ⟨ZAA, rfl, ZAA, ZAA, ZAA, ZAA, ZAA, ZAA, ZAA, ⟨rfl, .inr ⟨fun ls => ZAH (fun ls => K1.stable _ _ ls) ls, fun ls l F w h => ZA3 hb h⟩⟩, ZAA, ZAA, ZAA, trivial⟩)
 ·exact (ZAQ.cell 0 10 (.io (K.b 5) K.lT 10) (x := .i K.lT 10) rfl rfl (fun ρ => by simp [LV.at, ioC, hb]) (fun ρ h => h)).trans (ZAQ.has ⟨ZAA, rfl, ZAA, ZAA, ZAA, ZAA, ZAA, ZAA, ZAA, ZAA, ⟨rfl, .inr ⟨fun ls => ZAH (fun ls => K1.stable _ _ ls) ls, fun ls l F w h => ZA3 hb h⟩⟩, ZAA, ZAA, trivial⟩)
 ·exact (ZAQ.cell 0 11 (.io (K.b 6) K.lT 11) (x := .i K.lT 11) rfl rfl (fun ρ => by simp [LV.at, ioC, hb]) (fun ρ h => h)).trans (ZAQ.has ⟨ZAA, rfl, ZAA, ZAA, ZAA, ZAA, ZAA, ZAA, ZAA, ZAA, ZAA, ⟨rfl, .inr ⟨fun ls => ZAH (fun ls => K1.stable _ _ ls) ls, fun ls l F w h => ZA3 hb h⟩⟩, ZAA, trivial⟩)
 ·exact (ZAQ.cell 0 12 (.io (K.b 7) K.lT 12) (x := .i K.lT 12) rfl rfl (fun ρ => by simp [LV.at, ioC, hb]) (fun ρ h => h)).trans (ZAQ.has ⟨ZAA, rfl, ZAA, ZAA, ZAA, ZAA, ZAA, ZAA, ZAA, ZAA, ZAA, ZAA, ⟨rfl, .inr ⟨fun ls => ZAH (fun ls => K1.stable _ _ ls) ls, fun ls l F w h => ZA3 hb h⟩⟩, trivial⟩)
theorem ZBR {K : CK} {m nt nw c : Nat} {hs : Nat -> Int} {L L2 : CO} {s s2 : PS} {f : FuncId} {args : List AV} {X : SV} (hc : c < 8) (hb : K.b c = true)
  (h : ZAC Tryz.prog f (cohG K m nt nw c hs L s) 13 args fun x h k => x = X /\ k = 13 /\ h = cohG K m nt nw c hs L2 s2) : ZAC Tryz.prog f (cohG K m nt nw 8 hs L s) 13 args fun x h k => x = X /\ k = 13 /\ h = cohG K m nt nw 8 hs L2 s2 := by
 refine ZAC.refin (ZAC.ghost (ZPj K m nt nw c hs L s hc hb) h) ?_
 rintro x h k ⟨rfl, rfl, rfl⟩ _
 refine ZA7 (ZOl K m nt nw c hs L2 s2 hc hb) (Nat.le_refl _) ?_
 exact ⟨fun ρ φ w hm hok => ⟨_, _, _, ρ, φ, rfl, ⟨rfl, rfl, rfl⟩, Nat.le_refl _, fun k hk => ⟨hk, rfl⟩, hm, hok, fun k e hk ho b hb => ⟨k, e, hk, ho, hb⟩⟩⟩
def ZHv (t : Nat) (r : Dd × CO × PS) : Dd × CO × PS := (r.1, ⟨enSS r.2.1.ss t r.1.e, pick (enB r.2.1.ss.st t r.1.e) (updN r.2.1.td t 0) r.2.1.td, r.2.1.pa, r.2.1.g, r.2.1.lo⟩, r.2.2)
def ZDR (K : CK) (m nw : Nat) (t : Int) (ta : Nat) (now : Int) (L : CO) (s : PS) : Dd × CO × PS :=
 match inW m t with
 | false => (evD 0, L, s)
 | true => pick (decide (L.ss.st t.toNat = 1) || decide (L.ss.st t.toNat = 3)) (ZHv t.toNat (ZKK K nw t.toNat ta now (pick (decide (L.td t.toNat = 0)) (ZF6 K t.toNat L) L) s)) (evD 0, L, s)
def tdOk (f : Nat) : Prop := f = 275 \/ f = 278 \/ f = 281 \/ f = 283 \/ f = 274 \/ f = 277 \/ f = 280 \/ f = 276 \/ f = 279 \/ f = 284
structure CoOk (K : CK) (m : Nat) (L : CO) : Prop where
 l : ∀ t, t < m -> CoL K t L.lo
 g : CoG K L.g
 M : K.M <= 4096
 td : ∀ t, t < m -> L.td t = 0 \/ tdOk (L.td t)
theorem ZFN (K : CK) (m nt nw t ta : Nat) (now : Int) (hs : Nat -> Int) (L : CO) (s : PS) (ht : t < m) (hm : m <= 64) (hta : ta < nt) (hnt : nt <= 64) (hnw : nw <= 4096) (H : CoL K t L.lo) (HG : CoG K L.g) (hM : K.M <= 4096) (f : Nat) (hf : L.td t = f) (hv : tdOk f) :
  ZAC Tryz.prog f (cohG K m nt nw 8 hs L s) 13 [.l (.p 0 0 0 0), .l (.p 4 4 t 0), .l (.v (.int .i64 ta)), .l (.v (.int .i64 now))] fun x h k => x = didO (ZKK K nw t ta now L s).1 /\ k = 13 /\ h = cohG K m nt nw 8 hs (ZKK K nw t ta now L s).2.1 (ZKK K nw t ta now L s).2.2 := by
 unfold ZKK
 rcases hv with rfl | rfl | rfl | rfl | rfl | rfl | rfl | rfl | rfl | rfl
 ·simp only [hf, decide_true, decide_false, pick]
  exact ZBR H.c H.b (ZI3 K m nt nw t ta now hs L s ht hm hta hnt hnw H HG hM)
 ·simp only [hf, show ¬ 278 = 275 by decide, decide_true, decide_false, pick]
  exact ZBR H.c H.b (ZKL K m nt nw t ta now hs L s ht hm hta hnt hnw H HG hM)
 ·simp only [hf, show ¬ 281 = 275 by decide, show ¬ 281 = 278 by decide, decide_true, decide_false, pick]
  exact ZBR H.c H.b (ZKM K m nt nw t ta now hs L s ht hm hta hnt hnw H HG hM)
 ·simp only [hf, show ¬ 283 = 275 by decide, show ¬ 283 = 278 by decide, show ¬ 283 = 281 by decide, decide_true, decide_false, pick]
  exact ZBR H.c H.b (ZI4 K m nt nw t ta now hs L s ht hm hta hnt hnw H HG hM)
 ·simp only [hf, show ¬ 274 = 275 by decide, show ¬ 274 = 278 by decide, show ¬ 274 = 281 by decide, show ¬ 274 = 283 by decide, decide_true, decide_false, pick]
  exact ZBR H.c H.b (ZI5 K m nt nw t ta now hs L s ht hm hta hnt hnw H HG hM)
 ·simp only [hf, show ¬ 277 = 275 by decide, show ¬ 277 = 278 by decide, show ¬ 277 = 281 by decide, show ¬ 277 = 283 by decide, show ¬ 277 = 274 by decide, decide_true, decide_false, pick]
  exact ZBR H.c H.b (ZI6 K m nt nw t ta now hs L s ht hm hta hnt hnw H HG hM)
 ·simp only [hf, show ¬ 280 = 275 by decide, show ¬ 280 = 278 by decide, show ¬ 280 = 281 by decide, show ¬ 280 = 283 by decide, show ¬ 280 = 274 by decide, show ¬ 280 = 277 by decide, decide_true, decide_false, pick]
  exact ZBR H.c H.b (ZKN K m nt nw t ta now hs L s ht hm hta hnt hnw H HG hM)
 ·simp only [hf, show ¬ 276 = 275 by decide, show ¬ 276 = 278 by decide, show ¬ 276 = 281 by decide, show ¬ 276 = 283 by decide, show ¬ 276 = 274 by decide, show ¬ 276 = 277 by decide, show ¬ 276 = 280 by decide, decide_true, decide_false, pick]
  exact ZBR H.c H.b (ZHs K m nt nw t ta now hs L s ht hm hta hnt hnw H HG hM)
 ·simp only [hf, show ¬ 279 = 275 by decide, show ¬ 279 = 278 by decide, show ¬ 279 = 281 by decide, show ¬ 279 = 283 by decide, show ¬ 279 = 274 by decide, show ¬ 279 = 277 by decide, show ¬ 279 = 280 by decide, show ¬ 279 = 276 by decide, decide_true, decide_false, pick]
  exact ZBR H.c H.b (ZI7 K m nt nw t ta now hs L s ht hm hta hnt hnw H HG hM)
 ·simp only [hf, show ¬ 284 = 275 by decide, show ¬ 284 = 278 by decide, show ¬ 284 = 281 by decide, show ¬ 284 = 283 by decide, show ¬ 284 = 274 by decide, show ¬ 284 = 277 by decide, show ¬ 284 = 280 by decide, show ¬ 284 = 276 by decide, show ¬ 284 = 279 by decide, decide_true, decide_false, pick]
  exact ZBR H.c H.b (ZL6 K m nt nw t ta now hs L s ht hm hta hnt hnw H HG hM)
theorem ZNX (K : CK) (m nt nw t ta : Nat) (now : Int) (hs : Nat -> Int) (L : CO) (s : PS) (ht : t < m) (hm : m <= 64) (v : Int) (hv : L.ss.st t = v) (hv2 : v = 1 \/ v = 3) (f : Nat) (hf : L.td t = f + 1) (r : Dd × CO × PS)
  (hrun : ZAC Tryz.prog (f + 1) (cohG K m nt nw 8 hs L s) 13 [.l (.p 0 0 0 0), .l (.p 4 4 t 0), .l (.v (.int .i64 ta)), .l (.v (.int .i64 now))] fun x h k => x = didO r.1 /\ k = 13 /\ h = cohG K m nt nw 8 hs r.2.1 r.2.2) :
  ZAC Tryz.prog 271 (cohG K m nt nw 8 hs L s) 13 [.l (.p 0 0 0 0), .l (.v (.int .i64 t)), .l (.v (.int .i64 ta)), .l (.v (.int .i64 now))] fun x h k =>
   x = didO (ZHv t r).1 /\ k = 13 /\ h = cohG K m nt nw 8 hs (ZHv t r).2.1 (ZHv t r).2.2 := by
 have hst := ZA4 m L.ss.st L.ss.dl false false t ht hm
 rw [hv] at hst
 have hen := ZAV m r.2.1.ss.st r.2.1.ss.dl false false t r.1.e ht hm
 refine sE Tryz.func271 ic271_eq [.ca 8 4] fun G hP hA => ?_
 unfold evF ic271 ZHv
 cases eb : enB r.2.1.ss.st t r.1.e with
 | true =>
  rw [eb] at hen
  simp only [pick]
  rcases hv2 with rfl | rfl
  all_goals
   conv => whnf
   (repeat (first | (rw [hf]) | (((refine ZDr hP hrun [0, 1, 2, 3, 4, 5, 6, 7, 8, 9, 10, 11, 12] rfl rfl rfl (by exact ZAA) rfl rfl ?_); conv => whnf)) | ((first | refine aI ?_ | refine a64 ?_ | refine a32 ?_ | refine dY ?_ | refine dN ?_ | refine ZAF ?_ | refine dI hP ?_); conv => whnf) | (refine And.intro (by (conv => whnf); first | exact ⟨rfl, rfl, rfl⟩ | (refine And.intro (by (first | omega | assumption | (simp only [ZAI]; omega) | (simp [ZAI]; omega))) ?_; (conv => whnf); first | exact ⟨rfl, rfl, rfl⟩ | (refine ⟨?_, ?_, ?_⟩ <;> first | rfl | (rw [ZAk]; first | done | rfl) | (rw [hf]; first | done | rfl))) | (refine ⟨?_, ?_, ?_⟩ <;> first | rfl | (rw [ZAk]; first | done | rfl) | (rw [hf]; first | done | rfl))) ?_; conv => whnf) | rw [natI] | rw [ZAk] | ((first | refine ZBr hP hst ?_ | refine ZBT hP hst ?_ | refine ZBr hP hen ?_ | refine ZBT hP hen ?_); (conv => whnf); refine zA ?_; conv => whnf) | (refine arW ?_; conv => whnf)))
   refine fQ ?_ ?_
   ·rfl
   ·exact ⟨ZAA, rfl, ZAA, ZAA, ⟨rfl, rfl, fun j hj => by simp only [Nat.zero_add, ZAv, ZBC, ZBD, ZAw, ZAx, ZAy, ZBE, ZAp, ZAz, ZBW, ZBX, ZEv, ZEw, ZA1]⟩, ZAA, ZAA, ZAA, ZAA, ZAA, ZAA, ZAA, ZAA, trivial⟩
 | false =>
  rw [eb] at hen
  simp only [pick]
  rcases hv2 with rfl | rfl
  all_goals
   conv => whnf
   (repeat (first | (rw [hf]) | (((refine ZDr hP hrun [0, 1, 2, 3, 4, 5, 6, 7, 8, 9, 10, 11, 12] rfl rfl rfl (by exact ZAA) rfl rfl ?_); conv => whnf)) | ((first | refine aI ?_ | refine a64 ?_ | refine a32 ?_ | refine dY ?_ | refine dN ?_ | refine ZAF ?_ | refine dI hP ?_); conv => whnf) | (refine And.intro (by (conv => whnf); first | exact ⟨rfl, rfl, rfl⟩ | (refine And.intro (by (first | omega | assumption | (simp only [ZAI]; omega) | (simp [ZAI]; omega))) ?_; (conv => whnf); first | exact ⟨rfl, rfl, rfl⟩ | (refine ⟨?_, ?_, ?_⟩ <;> first | rfl | (rw [ZAk]; first | done | rfl) | (rw [hf]; first | done | rfl))) | (refine ⟨?_, ?_, ?_⟩ <;> first | rfl | (rw [ZAk]; first | done | rfl) | (rw [hf]; first | done | rfl))) ?_; conv => whnf) | rw [natI] | rw [ZAk] | ((first | refine ZBr hP hst ?_ | refine ZBT hP hst ?_ | refine ZBr hP hen ?_ | refine ZBT hP hen ?_); (conv => whnf); refine zA ?_; conv => whnf) | (refine arW ?_; conv => whnf)))
   exact fA
theorem ZFf (K : CK) (m nt nw t ta : Nat) (now : Int) (hs : Nat -> Int) (L L1 : CO) (s : PS) (ht : t < m) (hm : m <= 64) (v : Int) (hv : L.ss.st t = v) (hv2 : v = 1 \/ v = 3) (h0 : L.td t = 0) (f : Nat) (hf : L1.td t = f + 1) (r : Dd × CO × PS)
  (hbg : ZAC Tryz.prog 273 (cohG K m nt nw 8 hs L s) 13 [.l (.p 0 0 0 0), .l (.p 4 4 t 0), .l (.v (.int .i64 v))] fun x h k => x = .t [] /\ k = 13 /\ h = cohG K m nt nw 8 hs L1 s)
  (hrun : ZAC Tryz.prog (f + 1) (cohG K m nt nw 8 hs L1 s) 13 [.l (.p 0 0 0 0), .l (.p 4 4 t 0), .l (.v (.int .i64 ta)), .l (.v (.int .i64 now))] fun x h k => x = didO r.1 /\ k = 13 /\ h = cohG K m nt nw 8 hs r.2.1 r.2.2) :
  ZAC Tryz.prog 271 (cohG K m nt nw 8 hs L s) 13 [.l (.p 0 0 0 0), .l (.v (.int .i64 t)), .l (.v (.int .i64 ta)), .l (.v (.int .i64 now))] fun x h k =>
   x = didO (ZHv t r).1 /\ k = 13 /\ h = cohG K m nt nw 8 hs (ZHv t r).2.1 (ZHv t r).2.2 := by
 have hst := ZA4 m L.ss.st L.ss.dl false false t ht hm
 rw [hv] at hst
 have hen := ZAV m r.2.1.ss.st r.2.1.ss.dl false false t r.1.e ht hm
 refine sE Tryz.func271 ic271_eq [.ca 8 4] fun G hP hA => ?_
 unfold evF ic271 ZHv
 cases eb : enB r.2.1.ss.st t r.1.e with
 | true =>
  rw [eb] at hen
  simp only [pick]
  rcases hv2 with rfl | rfl
  all_goals
   conv => whnf
   (repeat (first | (rw [h0]) | (rw [hf]) | (((refine ZDr hP hbg [0, 1, 2, 3, 4, 5, 6, 7, 8, 9, 10, 11, 12] rfl rfl rfl (by exact ZAA) rfl rfl ?_); conv => whnf)) | (((refine ZDr hP hrun [0, 1, 2, 3, 4, 5, 6, 7, 8, 9, 10, 11, 12] rfl rfl rfl (by exact ZAA) rfl rfl ?_); conv => whnf)) | ((first | refine aI ?_ | refine a64 ?_ | refine a32 ?_ | refine dY ?_ | refine dN ?_ | refine ZAF ?_ | refine dI hP ?_); conv => whnf) | (refine And.intro (by (conv => whnf); first | exact ⟨rfl, rfl, rfl⟩ | (refine And.intro (by (first | omega | assumption | (simp only [ZAI]; omega) | (simp [ZAI]; omega))) ?_; (conv => whnf); first | exact ⟨rfl, rfl, rfl⟩ | (refine ⟨?_, ?_, ?_⟩ <;> first | rfl | (rw [ZAk]; first | done | rfl) | (rw [h0]; first | done | rfl) | (rw [hf]; first | done | rfl))) | (refine ⟨?_, ?_, ?_⟩ <;> first | rfl | (rw [ZAk]; first | done | rfl) | (rw [h0]; first | done | rfl) | (rw [hf]; first | done | rfl))) ?_; conv => whnf) | rw [natI] | rw [ZAk] | ((first | refine ZBr hP hst ?_ | refine ZBT hP hst ?_ | refine ZBr hP hen ?_ | refine ZBT hP hen ?_); (conv => whnf); refine zA ?_; conv => whnf) | (refine arW ?_; conv => whnf)))
   refine fQ ?_ ?_
   ·rfl
   ·exact ⟨ZAA, rfl, ZAA, ZAA, ⟨rfl, rfl, fun j hj => by simp only [Nat.zero_add, ZAv, ZBC, ZBD, ZAw, ZAx, ZAy, ZBE, ZAp, ZAz, ZBW, ZBX, ZEv, ZEw, ZA1]⟩, ZAA, ZAA, ZAA, ZAA, ZAA, ZAA, ZAA, ZAA, trivial⟩
 | false =>
  rw [eb] at hen
  simp only [pick]
  rcases hv2 with rfl | rfl
  all_goals
   conv => whnf
   (repeat (first | (rw [h0]) | (rw [hf]) | (((refine ZDr hP hbg [0, 1, 2, 3, 4, 5, 6, 7, 8, 9, 10, 11, 12] rfl rfl rfl (by exact ZAA) rfl rfl ?_); conv => whnf)) | (((refine ZDr hP hrun [0, 1, 2, 3, 4, 5, 6, 7, 8, 9, 10, 11, 12] rfl rfl rfl (by exact ZAA) rfl rfl ?_); conv => whnf)) | ((first | refine aI ?_ | refine a64 ?_ | refine a32 ?_ | refine dY ?_ | refine dN ?_ | refine ZAF ?_ | refine dI hP ?_); conv => whnf) | (refine And.intro (by (conv => whnf); first | exact ⟨rfl, rfl, rfl⟩ | (refine And.intro (by (first | omega | assumption | (simp only [ZAI]; omega) | (simp [ZAI]; omega))) ?_; (conv => whnf); first | exact ⟨rfl, rfl, rfl⟩ | (refine ⟨?_, ?_, ?_⟩ <;> first | rfl | (rw [ZAk]; first | done | rfl) | (rw [h0]; first | done | rfl) | (rw [hf]; first | done | rfl))) | (refine ⟨?_, ?_, ?_⟩ <;> first | rfl | (rw [ZAk]; first | done | rfl) | (rw [h0]; first | done | rfl) | (rw [hf]; first | done | rfl))) ?_; conv => whnf) | rw [natI] | rw [ZAk] | ((first | refine ZBr hP hst ?_ | refine ZBT hP hst ?_ | refine ZBr hP hen ?_ | refine ZBT hP hen ?_); (conv => whnf); refine zA ?_; conv => whnf) | (refine arW ?_; conv => whnf)))
   exact fA
theorem ZI8 (K : CK) (m nt nw ta : Nat) (t now v : Int) (hs : Nat -> Int) (L : CO) (s : PS) (hv : stV m L.ss.st t = v) (h1 : ¬ v = 1) (h3 : ¬ v = 3) :
  ZAC Tryz.prog 271 (cohG K m nt nw 8 hs L s) 13 [.l (.p 0 0 0 0), .l (.v (.int .i64 t)), .l (.v (.int .i64 ta)), .l (.v (.int .i64 now))] fun x h k =>
   x = didO (evD 0) /\ k = 13 /\ h = cohG K m nt nw 8 hs L s := by
 have hst := ZAs m L.ss.st L.ss.dl false false t
 rw [hv] at hst
 refine sE Tryz.func271 ic271_eq [.ca 8 4] fun G hP hA => ?_
 unfold evF ic271
 conv => whnf
 refine g1 hst ?_
 exact fA
theorem CoOk.b {K : CK} {m : Nat} {L : CO} (h : CoOk K m L) {t : Nat} (ht : t < m) : K.no t < 8 /\ K.b (K.no t) = true := ⟨(h.l t ht).c, (h.l t ht).b⟩
theorem ZKO (K : CK) (m nt nw ta : Nat) (t now : Int) (hs : Nat -> Int) (L : CO) (s : PS) (hm : m <= 64) (hta : ta < nt) (hnt : nt <= 64) (hnw : nw <= 4096) (H : CoOk K m L)
  (hset : ∀ i, i < m -> (k1Lk (K.cn (K.no i)) (L.lo (K.no i)) (K.inn i)).ok (K.cn (K.no i))) (hsT : ∀ (c : Nat) (S : K1) (t : Int), (k1Lk c S t).T = S.T) :
  ZAC Tryz.prog 271 (cohG K m nt nw 8 hs L s) 13 [.l (.p 0 0 0 0), .l (.v (.int .i64 t)), .l (.v (.int .i64 ta)), .l (.v (.int .i64 now))] fun x h k =>
   x = didO (ZDR K m nw t ta now L s).1 /\ k = 13 /\ h = cohG K m nt nw 8 hs (ZDR K m nw t ta now L s).2.1 (ZDR K m nw t ta now L s).2.2 := by
 unfold ZDR
 rcases ZAm m t with ⟨hb, i, hi, rfl⟩ | ⟨hb, ho⟩
 ·simp only [hb, Int.toNat_natCast]
  have Hl := H.l i hi
  by_cases hv2 : L.ss.st i = 1 \/ L.ss.st i = 3
  ·have e : (decide (L.ss.st i = 1) || decide (L.ss.st i = 3)) = true := by simpa using hv2
   simp only [e, pick]
   rcases H.td i hi with h0 | htd
   ·have tdn : tdOk 275 /\ tdOk 274 := by simp [tdOk]
    rcases hv2 with h1 | h3
    ·have hbg := ZBR Hl.c Hl.b (ZHu K m nt nw i ta now hs L s hi hm hta hnt hnw Hl)
     simp only [h0, decide_true, ZF6, h1, show ¬ (1 : Int) = 3 by omega, decide_false]
     generalize hL1 : CO.mk L.ss (updN L.td i 275) L.pa L.g (updK L.lo (K.no i) (k1Lk (K.cn (K.no i)) (L.lo (K.no i)) (K.inn i))) = L1 at hbg ⊢
     have hf : L1.td i = 275 := by rw [<- hL1]; simp [updN]
     have Hl1 : CoL K i L1.lo := by
      rw [<- hL1]
      refine ⟨Hl.c, Hl.b, Hl.cn, ?_, ?_⟩
      ·simp only [updK, if_true]; exact hset i hi
      ·simp only [updK, if_true]; rw [hsT]; exact Hl.T
     have Hg1 : CoG K L1.g := by rw [<- hL1]; exact H.g
     exact ZFf K m nt nw i ta now hs L L1 s hi hm 1 h1 (.inl rfl) h0 _ hf _ hbg (ZFN K m nt nw i ta now hs L1 s hi hm hta hnt hnw Hl1 Hg1 H.M _ hf tdn.1)
    ·have hbg := ZBR Hl.c Hl.b (ZHt K m nt nw i ta now hs L s hi hm hta hnt hnw Hl)
     simp only [h0, decide_true, ZF6, h3]
     generalize hL1 : CO.mk L.ss (updN L.td i 274) L.pa L.g L.lo = L1 at hbg ⊢
     have hf : L1.td i = 274 := by rw [<- hL1]; simp [updN]
     have Hl1 : CoL K i L1.lo := by rw [<- hL1]; exact Hl
     have Hg1 : CoG K L1.g := by rw [<- hL1]; exact H.g
     exact ZFf K m nt nw i ta now hs L L1 s hi hm 3 h3 (.inr rfl) h0 _ hf _ hbg (ZFN K m nt nw i ta now hs L1 s hi hm hta hnt hnw Hl1 Hg1 H.M _ hf tdn.2)
   ·have hn0 : ¬ L.td i = 0 := by
     intro h
     rw [h] at htd
     simp [tdOk] at htd
    obtain ⟨f, hf⟩ : ∃ f, L.td i = f + 1 := ⟨L.td i - 1, by omega⟩
    simp only [hn0, decide_false]
    exact ZNX K m nt nw i ta now hs L s hi hm _ rfl hv2 f hf _ (ZFN K m nt nw i ta now hs L s hi hm hta hnt hnw Hl H.g H.M _ hf (hf ▸ htd))
  ·have e : (decide (L.ss.st i = 1) || decide (L.ss.st i = 3)) = false := by simpa using hv2
   simp only [e, pick]
   refine ZI8 K m nt nw ta i now _ hs L s rfl ?_ ?_
   ·simp only [stV, hb, pick, Int.toNat_natCast]; exact fun h => hv2 (.inl h)
   ·simp only [stV, hb, pick, Int.toNat_natCast]; exact fun h => hv2 (.inr h)
 ·simp only [hb]
  refine ZI8 K m nt nw ta t now _ hs L s rfl ?_ ?_
  ·simp [stV, hb, pick]
  ·simp [stV, hb, pick]
theorem ZAn {α : Type} {P : α -> Prop} (b : Bool) (x y : α) (hx : P x) (hy : P y) : P (pick b x y) := by cases b <;> assumption
def abEx (n E : Nat) (L : AL) : Prop := 1 <= E /\ ∀ t, t < n -> (0 <= L.sp t /\ L.sp t <= 7) /\ (L.ss.st t = 0 -> L.tr t = 0)
def K1.ex (n : Nat) : K1 -> Prop
 | .ab E tail L => abEx n E L
 | _ => True
def K1.inv (n : Nat) (S : K1) : Prop := S.ok n /\ S.ex n
theorem K1.T_step (S : K1) (n nw ta : Nat) (t now : Int) (s : PS) : (S.step n nw t now ta s).2.1.T = S.T := by cases S <;> rfl
theorem K1.T_set (S : K1) (st dl : Nat -> Int) : (S.set st dl).T = S.T := by cases S <;> rfl
theorem ZGB (n E : Nat) (L : AL) (i : Nat) (hE : 1 <= E) (r : Dd × AL × PS) (ho : ∀ t, t < n -> t ≠ i -> r.2.1.ss.st t = L.ss.st t /\ r.2.1.sp t = L.sp t /\ r.2.1.tr t = L.tr t) (hok : abOk n E L) (hx : abEx n E L)
  (hi : 0 <= r.2.1.sp i /\ r.2.1.sp i <= 7) (h1 : enB r.2.1.ss.st i r.1.e = false -> (r.2.1.ss.st i = 1 -> r.2.1.sp i = 0 -> 0 <= r.2.1.tr i /\ r.2.1.tr i < E) /\ (r.2.1.ss.st i = 0 -> r.2.1.tr i = 0)) :
  abOk n E (ZIs i r).2.1 /\ abEx n E (ZIs i r).2.1 := by
 unfold ZIs
 cases eb : enB r.2.1.ss.st i r.1.e with
 | true =>
  simp only [pick]
  have hlt : ¬ ZDp (r.2.1.ss.st i) r.1.e < 0 := by simpa [enB] using eb
  have hst : ∀ t, t ≠ i -> enSt r.2.1.ss.st i r.1.e t = r.2.1.ss.st t := fun t h => by simp [enSt, hlt, pick, updF, h]
  refine ⟨fun t ht hs1 hs0 => ?_, hE, fun t ht => ?_⟩
  ·simp only [enSS] at hs1
   by_cases h : t = i
   ·subst h; simp only [updF, if_true]; omega
   ·simp only [updF, if_neg h] at hs0 ⊢
    rw [hst t h] at hs1
    obtain ⟨a, b, c⟩ := ho t ht h
    rw [a] at hs1; rw [b] at hs0; rw [c]
    exact hok t ht hs1 hs0
  ·by_cases h : t = i
   ·subst h; simp [updF]
   ·simp only [updF, if_neg h, enSS, hst t h]
    obtain ⟨a, b, c⟩ := ho t ht h
    rw [a, b, c]
    exact hx.2 t ht
 | false =>
  simp only [pick]
  have hlt : ZDp (r.2.1.ss.st i) r.1.e < 0 := by simpa [enB] using eb
  have hst : enSt r.2.1.ss.st i r.1.e = r.2.1.ss.st := by simp [enSt, hlt, pick]
  obtain ⟨k1, k2⟩ := h1 eb
  refine ⟨fun t ht hs1 hs0 => ?_, hE, fun t ht => ?_⟩
  ·simp only [enSS, hst] at hs1
   simp only at hs0 ⊢
   by_cases h : t = i
   ·subst h; exact k1 hs1 hs0
   ·obtain ⟨a, b, c⟩ := ho t ht h
    rw [a] at hs1; rw [b] at hs0; rw [c]
    exact hok t ht hs1 hs0
  ·simp only [enSS, hst]
   by_cases h : t = i
   ·subst h; exact ⟨hi, k2⟩
   ·obtain ⟨a, b, c⟩ := ho t ht h
    rw [a, b, c]
    exact hx.2 t ht
def AbGo (n E : Nat) (L : AL) (i : Nat) (r : Dd × AL × PS) : Prop :=
 (∀ t, t < n -> t ≠ i -> r.2.1.ss.st t = L.ss.st t /\ r.2.1.sp t = L.sp t /\ r.2.1.tr t = L.tr t) /\ (0 <= r.2.1.sp i /\ r.2.1.sp i <= 7) /\
  (enB r.2.1.ss.st i r.1.e = false -> (r.2.1.ss.st i = 1 -> r.2.1.sp i = 0 -> 0 <= r.2.1.tr i /\ r.2.1.tr i < E) /\ (r.2.1.ss.st i = 0 -> r.2.1.tr i = 0))
theorem ZOm (n E nw : Nat) (tail : Int) (i ta : Nat) (late : Bool) (L : AL) (s : PS) (hi : i < n) (hok : abOk n E L) (hx : abEx n E L) (hs : L.ss.st i = 1) : AbGo n E L i (abLk E nw tail i ta late L s) := by
 obtain ⟨hsp, _⟩ := hx.2 i hi
 have key : ∀ (d : Dd) (k : Int) (s2 : PS), 1 <= k /\ k <= 7 -> AbGo n E L i (d, abNx L i k, s2) := fun d k s2 hk => by
  refine ⟨fun t ht h => ⟨rfl, by simp [abNx, updF, h], rfl⟩, by simp [abNx, updF]; omega, fun _ => ⟨fun _ h0 => ?_, fun h => ?_⟩⟩
  ·simp [abNx, updF] at h0; omega
  ·simp only [abNx] at h; omega
 have same : ∀ (d : Dd) (s2 : PS), L.sp i ≠ 0 -> AbGo n E L i (d, L, s2) := fun d s2 h => ⟨fun _ _ _ => ⟨rfl, rfl, rfl⟩, hsp, fun _ => ⟨fun _ h0 => absurd h0 h, fun h0 => by simp only at h0; omega⟩⟩
 unfold abLk
 by_cases e0 : L.sp i = 0
 ·have hr := hok i hi hs e0
  simp only [e0, decide_true, pick, abSr]
  refine ⟨fun t ht h => ⟨rfl, ?_, by simp [updF, h]⟩, ?_, fun hb => ⟨fun _ h0 => ?_, fun h => by simp only at h; omega⟩⟩
  ·by_cases ez : rdV nw (i64w (abA tail (abN E i (L.tr i)) + 2)) s = 0 <;> simp [ez, updF, h]
  ·by_cases ez : rdV nw (i64w (abA tail (abN E i (L.tr i)) + 2)) s = 0 <;> simp [ez, updF, e0]
  ·by_cases ez : rdV nw (i64w (abA tail (abN E i (L.tr i)) + 2)) s = 0
   ·simp [ez, updF] at h0
   ·by_cases el : L.tr i + 1 = (E : Int)
    ·simp [ez, el, evD, enB, ZDp, hs, pick] at hb
    ·simp only [updF, if_true]; omega
 by_cases e1 : L.sp i = 1
 ·simp only [Int.reduceEq, e1, decide_true, decide_false, pick]; exact key _ 2 _ (by omega)
 by_cases e2 : L.sp i = 2
 ·simp only [Int.reduceEq, e2, decide_true, decide_false, pick]; exact key _ 3 _ (by omega)
 by_cases e3 : L.sp i = 3
 ·simp only [Int.reduceEq, e3, decide_true, decide_false, pick]; exact key _ 4 _ (by omega)
 by_cases e4 : L.sp i = 4
 ·simp only [Int.reduceEq, e4, decide_true, decide_false, pick]
  refine ⟨fun t ht h => ⟨rfl, ?_, rfl⟩, ?_, fun hb => ⟨fun _ h0 => ?_, fun h => by simp only at h; omega⟩⟩
  ·by_cases ez : i64w (rdV nw tail s) = 0 <;> simp [ez, updF, h]
  ·by_cases ez : i64w (rdV nw tail s) = 0 <;> simp [ez, updF, e4]
  ·by_cases ez : i64w (rdV nw tail s) = 0 <;> simp [ez, updF, e4] at h0
 by_cases e5 : L.sp i = 5
 ·simp only [Int.reduceEq, e5, decide_true, decide_false, pick]; exact key _ 6 _ (by omega)
 by_cases e6 : L.sp i = 6
 ·simp only [Int.reduceEq, e6, decide_true, decide_false, pick]
  cases hb : (decide (rdV nw (abA tail (L.no i)) s = 0) && late) with
  | true => exact key _ 7 _ (by omega)
  | false => exact same _ _ e0
 by_cases e7 : L.sp i = 7
 ·simp only [Int.reduceEq, e7, decide_true, decide_false, pick]
  exact same _ _ e0
 ·exfalso; omega
def AbUl (n : Nat) (L : AL) (i : Nat) (r : Int × AL × PS) : Prop :=
 (∀ t, t < n -> t ≠ i -> r.2.1.ss.st t = L.ss.st t /\ r.2.1.sp t = L.sp t /\ r.2.1.tr t = L.tr t) /\ (0 <= r.2.1.sp i /\ r.2.1.sp i <= 7) /\ r.2.1.ss.st i = 3
theorem ZOn (n E nw : Nat) (tail : Int) (i ta : Nat) (L : AL) (s : PS) (hi : i < n) (hx : abEx n E L) (hs : L.ss.st i = 3) : AbUl n L i (abUl nw tail i ta L s) := by
 obtain ⟨hsp, _⟩ := hx.2 i hi
 have key : ∀ (d : Int) (k : Int) (s2 : PS), 0 <= k /\ k <= 7 -> AbUl n L i (d, abNx L i k, s2) := fun d k s2 hk =>
  ⟨fun t ht h => ⟨rfl, by simp [abNx, updF, h], rfl⟩, by simp [abNx, updF]; omega, hs⟩
 unfold abUl
 cases eb : (decide (L.sp i = 0) || decide (L.sp i = 2)) with
 | true =>
  simp only [pick]
  refine ⟨fun t ht h => ⟨rfl, ?_, rfl⟩, ?_, hs⟩
  ·by_cases ez : i64w (rdV nw (i64w (abA tail (L.no i) + 1)) s) = 0 <;> by_cases e0 : L.sp i = 0 <;> simp [ez, e0, updF, h]
  ·by_cases ez : i64w (rdV nw (i64w (abA tail (L.no i) + 1)) s) = 0 <;> by_cases e0 : L.sp i = 0 <;> simp [ez, e0, updF] <;> omega
 | false =>
  simp only [pick]
  by_cases e1 : L.sp i = 1
  ·simp only [e1, decide_true]
   refine key _ _ _ ?_
   cases casB nw tail (u32w (L.no i)) s <;> simp
  by_cases e3 : L.sp i = 3
  ·simp only [Int.reduceEq, e3, decide_true, decide_false]
   refine key _ _ _ ?_
   cases casB nw (abA tail (L.ot i)) 0 s <;> simp
  by_cases e4 : L.sp i = 4
  ·simp only [Int.reduceEq, e4, decide_true, decide_false]
   exact ⟨fun t ht h => ⟨rfl, by simp [updF, h], by simp [updF, h]⟩, by simp [updF], hs⟩
  by_cases e5 : L.sp i = 5
  ·simp only [Int.reduceEq, e5, decide_true, decide_false]
   exact ⟨fun _ _ _ => ⟨rfl, rfl, rfl⟩, hsp, hs⟩
  ·simp only [e1, e3, e4, e5, decide_false]
   exact ⟨fun _ _ _ => ⟨rfl, rfl, rfl⟩, hsp, hs⟩
theorem ZL7 (n E nw : Nat) (tail t now : Int) (ta : Nat) (L : AL) (s : PS) (hok : abOk n E L) (hx : abEx n E L) : abOk n E (ZBy E n nw tail t now ta L s).2.1 /\ abEx n E (ZBy E n nw tail t now ta L s).2.1 := by
 unfold ZBy
 rcases ZAm n t with ⟨hb, i, hi, rfl⟩ | ⟨hb, ho⟩
 ·simp only [hb, Int.toNat_natCast]
  unfold ZLw
  by_cases e1 : L.ss.st i = 1
  ·simp only [e1, decide_true, pick]
   obtain ⟨h1, h2, h3⟩ := ZOm n E nw tail i ta (ZLN L.ss.dl i now) L s hi hok hx e1
   exact ZGB n E L i hx.1 _ h1 hok hx h2 h3
  by_cases e3 : L.ss.st i = 3
  ·simp only [Int.reduceEq, e3, decide_true, decide_false, pick]
   obtain ⟨h1, h2, h3⟩ := ZOn n E nw tail i ta L s hi hx e3
   exact ZGB n E L i hx.1 _ h1 hok hx h2 fun _ => ⟨fun h => by simp only at h; rw [h3] at h; omega, fun h => by simp only at h; rw [h3] at h; omega⟩
  ·simp only [e1, e3, decide_false, pick]
   exact ZGB n E L i hx.1 _ (fun _ _ _ => ⟨rfl, rfl, rfl⟩) hok hx (hx.2 i hi).1 fun _ => ⟨fun h => absurd h e1, (hx.2 i hi).2⟩
 ·simp only [hb]
  exact ⟨hok, hx⟩
theorem K1.inv_step {S : K1} {n : Nat} (h : S.inv n) (nw ta : Nat) (t now : Int) (s : PS) : (S.step n nw t now ta s).2.1.inv n := by
 cases S with
 | ab E tail L =>
  obtain ⟨⟨h1, h2⟩, h3⟩ := h
  obtain ⟨k1, k2⟩ := ZL7 n E nw tail t now ta L s h2 h3
  exact ⟨⟨h1, k1⟩, k2⟩
 | fl => exact h
 | sl => exact h
 | cl => exact h
 | mc => exact h
 | hi => exact h
theorem K1.inv_set {S : K1} {n : Nat} (h : S.inv n) (st dl : Nat -> Int) (hs : ∀ t, t < n -> st t = S.ss.st t \/ (S.ss.st t = 0 /\ st t = 1) \/ (st t ≠ 0 /\ st t ≠ 1)) : (S.set st dl).inv n := by
 cases S with
 | ab E tail L =>
  obtain ⟨⟨h1, h2⟩, h3, h4⟩ := h
  refine ⟨⟨h1, fun t ht a b => ?_⟩, h3, fun t ht => ⟨(h4 t ht).1, fun a => ?_⟩⟩
  ·simp only at a b ⊢
   rcases hs t ht with e | ⟨e, _⟩ | ⟨_, e⟩
   ·rw [e] at a; exact h2 t ht a b
   ·rw [(h4 t ht).2 e]; omega
   ·exact absurd a e
  ·simp only at a ⊢
   rcases hs t ht with e | ⟨_, e⟩ | ⟨e, _⟩
   ·rw [e] at a; exact (h4 t ht).2 a
   ·rw [e] at a; omega
   ·exact absurd a e
 | fl => exact h
 | sl => exact h
 | cl => exact h
 | mc => exact h
 | hi => exact h
theorem ZNY (n : Nat) (st : Nat -> Int) (tm : Bool) (t d : Int) : ∀ j, j < n -> lkSt n st tm t d j = st j \/ (st j = 0 /\ lkSt n st tm t d j = 1) \/ (lkSt n st tm t d j ≠ 0 /\ lkSt n st tm t d j ≠ 1) := fun j hj => by
 unfold lkSt
 by_cases h : lkE n st tm t d = 0
 ·simp only [h, decide_true, pick, updF]
  by_cases hj2 : j = t.toNat
  ·subst hj2; simp only [if_true]; exact .inr (.inl ⟨(ZRG h).2.2.2, trivial⟩)
  ·simp only [if_neg hj2]; exact .inl trivial
 ·simp only [h, decide_false, pick]; exact .inl trivial
theorem ZKP (n : Nat) (st : Nat -> Int) (t v : Int) (hv : v ≠ 0 /\ v ≠ 1) : ∀ j, j < n -> ulSt n st t v j = st j \/ (st j = 0 /\ ulSt n st t v j = 1) \/ (ulSt n st t v j ≠ 0 /\ ulSt n st t v j ≠ 1) := fun j hj => by
 unfold ulSt
 by_cases h : hoE n st t = 0
 ·simp only [h, decide_true, pick, updF]
  by_cases hj2 : j = t.toNat
  ·subst hj2; simp only [if_true]; exact .inr (.inr hv)
  ·simp only [if_neg hj2]; exact .inl trivial
 ·simp only [h, decide_false, pick]; exact .inl trivial
theorem ZPk (n : Nat) (st : Nat -> Int) (pr : Bool) (t : Int) : ∀ j, j < n -> prSt n st pr t j = st j \/ (st j = 0 /\ prSt n st pr t j = 1) \/ (prSt n st pr t j ≠ 0 /\ prSt n st pr t j ≠ 1) := fun j hj => by
 unfold prSt
 cases pr
 ·exact .inl rfl
 ·exact ZKP n st t 4 (by omega) j hj
theorem ZHw {S : K1} {n : Nat} (h : S.inv n) (t : Int) : (k1Lk n S t).inv n := K1.inv_set h _ _ (ZNY _ _ _ _ _)
theorem ZLO {S : K1} {n : Nat} (h : S.inv n) (t : Int) : (k1Ul n S t).inv n := K1.inv_set h _ _ (ZKP _ _ _ _ (by omega))
theorem ZOo {S : K1} {n : Nat} (h : S.inv n) (t : Int) : (k1Pr n S t).inv n := K1.inv_set h _ _ (ZPk _ _ _ _)
def CkOk (K : CK) (m : Nat) : Prop := K.M <= 4096 /\ ∀ t, t < m -> K.no t < 8 /\ K.b (K.no t) = true /\ K.cn (K.no t) <= 64
def GOk (K : CK) (g : K1) : Prop := g.inv 8 /\ g.T = K.gT
def LoOk (K : CK) (m : Nat) (lo : Nat -> K1) : Prop := ∀ t, t < m -> (lo (K.no t)).inv (K.cn (K.no t)) /\ (lo (K.no t)).T = K.lT
def TdOk (m : Nat) (td : Nat -> Nat) : Prop := ∀ t, t < m -> td t = 0 \/ tdOk (td t)
def ZCs (K : CK) (m : Nat) (L : CO) : Prop := CkOk K m /\ GOk K L.g /\ LoOk K m L.lo /\ TdOk m L.td
theorem ZCs.ok {K : CK} {m : Nat} {L : CO} (h : ZCs K m L) : CoOk K m L := by
 obtain ⟨h1, h2, h3, h4⟩ := h
 exact ⟨fun t ht => ⟨(h1.2 t ht).1, (h1.2 t ht).2.1, (h1.2 t ht).2.2, (h3 t ht).1.1, (h3 t ht).2⟩, ⟨h2.1.1, h2.2⟩, h1.1, h4⟩
theorem LoOk.upd {K : CK} {m : Nat} {lo : Nat -> K1} (h : LoOk K m lo) (c : Nat) (S : K1) (hS : S.inv (K.cn c)) (hT : S.T = K.lT) : LoOk K m (updK lo c S) := fun t ht => by
 by_cases e : K.no t = c
 ·simp only [updK, if_pos e, e]; exact ⟨hS, hT⟩
 ·simp only [updK, if_neg e]; exact h t ht
theorem TdOk.upd {m : Nat} {td : Nat -> Nat} (h : TdOk m td) (t f : Nat) (hf : f = 0 \/ tdOk f) : TdOk m (updN td t f) := fun j hj => by
 by_cases e : j = t
 ·simp only [updN, if_pos e]; exact hf
 ·simp only [updN, if_neg e]; exact h j hj
theorem ZNZ (K : CK) (m nw t ta : Nat) (now : Int) (L : CO) (s : PS) (ht : t < m) (h : ZCs K m L) : ZCs K m (ZKK K nw t ta now L s).2.1 := by
 obtain ⟨h1, h2, h3, h4⟩ := h
 have hl := h3 t ht
 have hls : LoOk K m (updK L.lo (K.no t) (coLs K nw t ta now L s).2.1) := h3.upd _ _ (K1.inv_step hl.1 _ _ _ _ _) (by unfold coLs; rw [K1.T_step]; exact hl.2)
 have hgs : GOk K (coGs K nw t ta now L s).2.1 := ⟨K1.inv_step h2.1 _ _ _ _ _, by unfold coGs; rw [K1.T_step]; exact h2.2⟩
 have haw : LoOk K m (updK L.lo (K.no t) (k1Ul (K.cn (K.no t)) (L.lo (K.no t)) (K.inn t))) := h3.upd _ _ (ZLO hl.1 _) (by unfold k1Ul; rw [K1.T_set]; exact hl.2)
 unfold ZKK
 refine ZAn (P := fun r : Dd × CO × PS => ZCs K m r.2.1) _ _ _ ?_ (ZAn (P := fun r : Dd × CO × PS => ZCs K m r.2.1) _ _ _ ?_ (ZAn (P := fun r : Dd × CO × PS => ZCs K m r.2.1) _ _ _ ?_ (ZAn (P := fun r : Dd × CO × PS => ZCs K m r.2.1) _ _ _ ?_ (ZAn (P := fun r : Dd × CO × PS => ZCs K m r.2.1) _ _ _ ?_ (ZAn (P := fun r : Dd × CO × PS => ZCs K m r.2.1) _ _ _ ?_ (ZAn (P := fun r : Dd × CO × PS => ZCs K m r.2.1) _ _ _ ?_ (ZAn (P := fun r : Dd × CO × PS => ZCs K m r.2.1) _ _ _ ?_ (ZAn (P := fun r : Dd × CO × PS => ZCs K m r.2.1) _ _ _ ?_ ?_))))))))
 ·exact ⟨h1, h2, hls, ZAn _ _ _ (h4.upd _ _ (.inr (by simp [tdOk]))) h4⟩
 ·unfold ZHG
  refine ZAn (P := fun r : Dd × CO × PS => ZCs K m r.2.1) _ _ _ ⟨h1, ⟨ZHw h2.1 _, by unfold k1Lk; rw [K1.T_set]; exact h2.2⟩, h3, h4.upd _ _ (.inr (by simp [tdOk]))⟩ ⟨h1, h2, h3, h4⟩
 ·exact ⟨h1, hgs, h3, ZAn _ _ _ (h4.upd _ _ (.inr (by simp [tdOk]))) h4⟩
 ·exact ⟨h1, h2, h3, h4⟩
 ·unfold ZFL
  refine ZAn (P := fun r : CO => ZCs K m r) _ _ _ ⟨h1, h2, h3.upd _ _ (ZOo hl.1 _) (by unfold k1Pr; rw [K1.T_set]; exact hl.2), h4.upd _ _ (.inr (by simp [tdOk]))⟩ ⟨h1, h2, h3, h4.upd _ _ (.inr (by simp [tdOk]))⟩
 ·exact ⟨h1, h2, hls, h4.upd _ _ (ZAn (P := fun f => f = 0 \/ tdOk f) _ _ _ (.inr (by simp [tdOk])) (.inr (by simp [tdOk])))⟩
 ·exact ⟨h1, h2, haw, h4.upd _ _ (.inr (by simp [tdOk]))⟩
 ·exact ⟨h1, ⟨ZLO h2.1 _, by show (k1Ul 8 L.g (K.no t : Int)).T = K.gT; unfold k1Ul; rw [K1.T_set]; exact h2.2⟩, h3, h4.upd _ _ (.inr (by simp [tdOk]))⟩
 ·unfold ZFM
  refine ZAn (P := fun r : CO => ZCs K m r) _ _ _ ⟨h1, hgs, haw, h4.upd _ _ (.inr (by simp [tdOk]))⟩ ⟨h1, hgs, h3, h4⟩
 ·exact ⟨h1, h2, hls, h4⟩
theorem ZL8 (K : CK) (m nw ta : Nat) (t now : Int) (L : CO) (s : PS) (h : ZCs K m L) : ZCs K m (ZDR K m nw t ta now L s).2.1 := by
 unfold ZDR
 rcases ZAm m t with ⟨hb, i, hi, rfl⟩ | ⟨hb, ho⟩
 ·simp only [hb, Int.toNat_natCast]
  have hl := h.2.2.1 i hi
  refine ZAn (P := fun r : Dd × CO × PS => ZCs K m r.2.1) _ _ _ ?_ h
  have hbg : ZCs K m (pick (decide (L.td i = 0)) (ZF6 K i L) L) := by
   refine ZAn _ _ _ ?_ h
   unfold ZF6
   exact ZAn _ _ _ ⟨h.1, h.2.1, h.2.2.1, h.2.2.2.upd _ _ (.inr (by simp [tdOk]))⟩ ⟨h.1, h.2.1, h.2.2.1.upd _ _ (ZHw hl.1 _) (by unfold k1Lk; rw [K1.T_set]; exact hl.2), h.2.2.2.upd _ _ (.inr (by simp [tdOk]))⟩
  obtain ⟨a, b, c, d⟩ := ZNZ K m nw i ta now _ s hi hbg
  exact ⟨a, b, c, ZAn _ _ _ (d.upd _ _ (.inl rfl)) d⟩
 ·simp only [hb]; exact h
inductive LK where
 | s (S : K1)
 | c (K : CK) (L : CO)
def LK.R (n : Nat) : LK -> List Go.Sx.Loc -> Go.Sx.Loc -> List Nat -> World -> Prop
 | .s S => S.R n
 | .c K L => ZAl (ZFq K n 8 L) 13
def LK.T : LK -> Nat
 | .s S => S.T
 | .c .. => 239
def LK.ss : LK -> SS
 | .s S => S.ss
 | .c K L => L.ss
def LK.tm : LK -> Bool
 | .s S => S.tm
 | .c .. => false
def LK.pr : LK -> Bool
 | .s S => S.pr
 | .c .. => false
def LK.set (st dl : Nat -> Int) : LK -> LK
 | .s S => .s (S.set st dl)
 | .c K L => .c K ⟨⟨st, dl⟩, L.td, L.pa, L.g, L.lo⟩
def LK.inv (n : Nat) : LK -> Prop
 | .s S => S.inv n
 | .c K L => ZCs K n L
def LK.step (n nw : Nat) (t now : Int) (ta : Nat) (s : PS) : LK -> Dd × LK × PS
 | .s S => ((S.step n nw t now ta s).1, .s (S.step n nw t now ta s).2.1, (S.step n nw t now ta s).2.2)
 | .c K L => ((ZDR K n nw t ta now L s).1, .c K (ZDR K n nw t ta now L s).2.1, (ZDR K n nw t ta now L s).2.2)
theorem LK.stable (n : Nat) (S : LK) (ls : List Go.Sx.Loc) : ZCc (S.R n ls) := by
 cases S with
 | s S => exact K1.stable n S ls
 | c K L => exact ZBO _ _ _
theorem LK.T_step (S : LK) (n nw ta : Nat) (t now : Int) (s : PS) : (S.step n nw t now ta s).2.1.T = S.T := by
 cases S with
 | s S => exact K1.T_step S n nw ta t now s
 | c K L => rfl
theorem LK.T_set (S : LK) (st dl : Nat -> Int) : (S.set st dl).T = S.T := by
 cases S with
 | s S => exact K1.T_set S st dl
 | c K L => rfl
theorem LK.inv_step {S : LK} {n : Nat} (h : S.inv n) (nw ta : Nat) (t now : Int) (s : PS) : (S.step n nw t now ta s).2.1.inv n := by
 cases S with
 | s S => exact K1.inv_step (S := S) h nw ta t now s
 | c K L => exact ZL8 K n nw ta t now L s h
def LK.lock (n : Nat) (S : LK) (t d : Int) : LK := S.set (lkSt n S.ss.st S.tm t d) (lkDl n S.ss.st S.ss.dl S.tm t d)
def LK.unlock (n : Nat) (S : LK) (t : Int) : LK := S.set (ulSt n S.ss.st t 3) S.ss.dl
def LK.probe (n : Nat) (S : LK) (t : Int) : LK := S.set (prSt n S.ss.st S.pr t) S.ss.dl
theorem LK.inv_lock {S : LK} {n : Nat} (h : S.inv n) (t d : Int) : (S.lock n t d).inv n := by
 cases S with
 | s S => exact K1.inv_set (S := S) h _ _ (ZNY _ _ _ _ _)
 | c K L => exact h
theorem LK.inv_unlock {S : LK} {n : Nat} (h : S.inv n) (t : Int) : (S.unlock n t).inv n := by
 cases S with
 | s S => exact K1.inv_set (S := S) h _ _ (ZKP _ _ _ _ (by omega))
 | c K L => exact h
theorem ZNa (K : CK) (n nt nw ta : Nat) (t now : Int) (hs : Nat -> Int) (L : CO) (s : PS) (hta : ta < nt) (hnt : nt <= 64) (hn : n <= 64) (hnw : nw <= 4096) (hok : ZCs K n L) :
  ZAC Tryz.prog 271 [(0, some (.ob [1] (ZAl (ZFq K n 8 L) 13))), (1, some (ZBK nt nw hs s))] 2 [.l (.p 0 0 0 0), .l (.v (.int .i64 t)), .l (.v (.int .i64 ta)), .l (.v (.int .i64 now))] fun x h k =>
   x = didO (ZDR K n nw t ta now L s).1 /\ k = 2 /\ h = [(0, some (.ob [1] (ZAl (ZFq K n 8 (ZDR K n nw t ta now L s).2.1) 13))), (1, some (ZBK nt nw hs (ZDR K n nw t ta now L s).2.2))] := by
 have key := ZKO K n nt nw ta t now hs L s hn hta hnt hnw hok.ok (fun i hi => (ZHw (hok.2.2.1 i hi).1 _).1) (fun c S t => by unfold k1Lk; rw [K1.T_set])
 generalize ZDR K n nw t ta now L s = r at key ⊢
 refine ZAC.refin (ZAC.ghost (ZAY 0 (ks := [1]) (H := ZFq K n 8 L) (np := 13) rfl (by decide) rfl rfl rfl) (ZAC.pre key ?_)) ?_
 ·exact ZAA
 ·rintro x h k ⟨rfl, rfl, rfl⟩ _
  refine ZA7 (ZCS [0, 1, 2, 3, 4, 5, 6, 7, 8, 9, 10, 11, 12] (H := ZFq K n 8 r.2.1) (np := 13) 1 rfl (by decide) rfl rfl ?_ rfl) (Nat.le_of_ble_eq_true rfl) ?_
  ·exact ZAA
  conv => whnf
  exact fA
theorem ZLP (S : LK) (n nt nw ta : Nat) (t now : Int) (hs : Nat -> Int) (s : PS) (hta : ta < nt) (hnt : nt <= 64) (hn : n <= 64) (hnw : nw <= 4096) (hok : S.inv n) :
  ZDk Tryz.prog (.l (.i S.T 0)) "Step" [(0, some (.ob [1] (S.R n))), (1, some (ZBK nt nw hs s))] 2 [.l (.v (.int .i64 t)), .l (.v (.int .i64 ta)), .l (.v (.int .i64 now))] fun x h k =>
   x = didO (S.step n nw t now ta s).1 /\ k = 2 /\ h = [(0, some (.ob [1] ((S.step n nw t now ta s).2.1.R n))), (1, some (ZBK nt nw hs (S.step n nw t now ta s).2.2))] := by
 cases S with
 | s S => exact ZHF S n nt nw ta t now hs s hta hnt hn hnw hok.1
 | c K L => exact ZJu (fun v args w => by kernel_rfl) (ZNa K n nt nw ta t now hs L s hta hnt hn hnw hok)
theorem ZHx : IvS 239 "Lock" 210 := ZA0 fun a args w => by kernel_rfl
theorem ZPO (S : LK) (n : Nat) (t d : Int) (hn : n <= 64) :
  ZDk Tryz.prog (.l (.i S.T 0)) "Lock" [(0, some (.ob [1] (S.R n)))] 2 [.l (.v (.int .i64 t)), .l (.v (.int .i64 d))] fun x h k => x = sInt .i64 (lkE n S.ss.st S.tm t d) /\ k = 2 /\ h = [(0, some (.ob [1] ((S.lock n t d).R n)))] := by
 cases S with
 | s S => exact ZNV S n t d hn
 | c K L =>
  have hq := ZFe n L.ss.st L.ss.dl false false t d hn
  refine ZBj fun G hP hA => ?_
  refine ZAU (ZAY 0 (ks := [1]) (H := ZFq K n 8 L) (np := 13) rfl (by decide) rfl rfl rfl) ?_
  refine ZAX hP ZHx rfl rfl ?_
  conv => whnf
  refine cA (hq) ?_
  refine ZA7 (ZCS [0, 1, 2, 3, 4, 5, 6, 7, 8, 9, 10, 11, 12] (H := ZFq K n 8 ⟨⟨lkSt n L.ss.st false t d, lkDl n L.ss.st L.ss.dl false t d⟩, L.td, L.pa, L.g, L.lo⟩) (np := 13) 1 rfl (by decide) rfl rfl ?_ rfl) (Nat.le_of_ble_eq_true rfl) ?_
  ·exact ZAA
  conv => whnf
  exact fA
theorem ZGC : IvS 239 "Unlock" 214 := ZA0 fun a args w => by kernel_rfl
theorem ZOp (S : LK) (n : Nat) (t : Int) (hn : n <= 64) :
  ZDk Tryz.prog (.l (.i S.T 0)) "Unlock" [(0, some (.ob [1] (S.R n)))] 2 [.l (.v (.int .i64 t))] fun x h k => x = sInt .i64 (hoE n S.ss.st t) /\ k = 2 /\ h = [(0, some (.ob [1] ((S.unlock n t).R n)))] := by
 cases S with
 | s S => exact ZHn S n t hn
 | c K L =>
  have hq := ZEJ n L.ss.st L.ss.dl false false t hn
  refine ZBj fun G hP hA => ?_
  refine ZAU (ZAY 0 (ks := [1]) (H := ZFq K n 8 L) (np := 13) rfl (by decide) rfl rfl rfl) ?_
  refine ZAX hP ZGC rfl rfl ?_
  conv => whnf
  refine cA (hq) ?_
  refine ZA7 (ZCS [0, 1, 2, 3, 4, 5, 6, 7, 8, 9, 10, 11, 12] (H := ZFq K n 8 ⟨⟨ulSt n L.ss.st t 3, L.ss.dl⟩, L.td, L.pa, L.g, L.lo⟩) (np := 13) 1 rfl (by decide) rfl rfl ?_ rfl) (Nat.le_of_ble_eq_true rfl) ?_
  ·exact ZAA
  conv => whnf
  exact fA
theorem ZG1 : IvS 239 "State" 212 := ZA0 fun a args w => by kernel_rfl
theorem ZFO (S : LK) (n : Nat) (t : Int) (hn : n <= 64) :
  ZDk Tryz.prog (.l (.i S.T 0)) "State" [(0, some (.ob [1] (S.R n)))] 2 [.l (.v (.int .i64 t))] fun x h k => x = sInt .i64 (stV n S.ss.st t) /\ k = 2 /\ h = [(0, some (.ob [1] (S.R n)))] := by
 cases S with
 | s S => exact ZPi S n t hn
 | c K L =>
  have hq := ZAs n L.ss.st L.ss.dl false false t
  refine ZBj fun G hP hA => ?_
  refine ZAU (ZAY 0 (ks := [1]) (H := ZFq K n 8 L) (np := 13) rfl (by decide) rfl rfl rfl) ?_
  refine ZAX hP ZG1 rfl rfl ?_
  conv => whnf
  refine cA (hq) ?_
  refine ZA7 (ZCS [0, 1, 2, 3, 4, 5, 6, 7, 8, 9, 10, 11, 12] (H := ZFq K n 8 L) (np := 13) 1 rfl (by decide) rfl rfl ?_ rfl) (Nat.le_of_ble_eq_true rfl) ?_
  ·exact ZAA
  conv => whnf
  exact fA
def ZJe (ty p l s m : Nat) : List LV := [.p p 0 0 0, .i ty l, .v (.slice none 0 0), .v (.int .i64 0), .v (.int .i64 0), .s s 1 0 m 0]
def ZP0 (ty p l tr s m i : Nat) (now idle : Int) : List LV := [.p p 0 0 0, .i ty l, .s tr 4 0 i 0, .v (.int .i64 now), .v (.int .i64 idle), .s s 1 0 m 0]
def rowT (kind t now : Int) (lead : Bool) : List Value := [.int .i64 kind, .int .i64 t, .int .i64 now, .bool lead]
def ZCG (rows : Nat -> List Value) (i : Nat) (r : List Value) : Nat -> List Value := fun j => if j < i then rows j else r
structure MS where
 S : LK
 s : PS
 i : Nat
 rows : Nat -> List Value
 now : Int
 idle : Int
 sp : Nat -> Int
def ZBt (n nw ty tr : Nat) (hs : Nat -> Int) (X : MS) : Heap := [(0, some (.st (ZP0 ty 1 2 tr 4 n X.i X.now X.idle))), (1, some (ZBK n nw hs X.s)), (2, some (.ob [1] (X.S.R n))), (tr, some (.ar 4 X.i X.rows)), (4, some (.ar 1 n (numE X.sp)))]
def MS.ent (X : MS) (kind t : Int) (lead : Bool) : MS := ⟨X.S, X.s, X.i + 1, ZCG X.rows X.i (rowT kind t X.now lead), X.now, X.idle, X.sp⟩
theorem ZAh (ty m i : Nat) (now idle kind t : Int) (rows : Nat -> List Value) (hi : i <= 100000) :
  ZAC Tryz.prog 97 [(0, some (.st (ZP0 ty 1 2 3 4 m i now idle))), (3, some (.ar 4 i rows))] 5 [.l (.p 0 0 0 0), .l (.v (.int .i64 kind)), .l (.v (.int .i64 t))] fun x h k =>
   x = .t [] /\ k = 6 /\ h = [(0, some (.st (ZP0 ty 1 2 5 4 m (i + 1) now idle))), (5, some (.ar 4 (i + 1) (ZCG rows i (rowT kind t now false))))] := by
 refine sE Tryz.func97 ic97_eq [] fun G hP hA => ?_
 unfold evF ic97
 conv => whnf
 refine zD ?_
 refine zP ?_
 refine zO ?_
 refine fQ ?_ ?_
 ·rfl
 ·refine ⟨rfl, ⟨rfl, rfl, fun j hj => ?_⟩, trivial⟩
  by_cases h : j < i
  ·simp only [ZCG, if_pos h]
  ·have e : j - i = 0 := by omega
   simp only [ZCG, if_neg h, e]
   rfl
def MS.did (X : MS) (d : Dd) (t : Int) : MS :=
 let X1 := pick d.q (X.ent 2 t false) X
 let X2 := pick d.a (X1.ent 3 t false) X1
 pick (decide (d.e = 1)) (X2.ent 4 t d.l) (pick (decide (d.e = 2)) (X2.ent 5 t false) (pick (decide (d.e = 6)) (X2.ent 8 t false) (pick (decide (d.e = 3)) (X2.ent 7 t false) X2)))
def MS.mid (n nw : Nat) (X : MS) (t : Nat) : Dd × LK × PS := X.S.step n nw (t : Int) X.now t X.s
def MS.busy (n : Nat) (X : MS) (t : Int) : Bool := decide (stV n X.S.ss.st t = 1) || decide (stV n X.S.ss.st t = 3)
def MS.stp (n nw : Nat) (X : MS) (t : Int) : Bool × MS :=
 match X.busy n t with
 | true => (true, (MS.mk (X.mid n nw t.toNat).2.1 (X.mid n nw t.toNat).2.2 X.i X.rows X.now X.idle (updF X.sp t.toNat (incZ (X.sp t.toNat)))).did (X.mid n nw t.toNat).1 t)
 | false => (false, X)
theorem ZOq (rows : Nat -> List Value) (i : Nat) (a b c : Int) (l : Bool) (j : Nat) (hj : j < i + 1) : mrgL (j = i) (ZAG (ZCG rows i (rowT a b c false) j) 3 [.bool l]) (ZCG rows i (rowT a b c false) j) = ZCG rows i (rowT a b c l) j := by
 rw [ZFR _ _ _ (by rw [ZA5])]
 by_cases h : j = i
 ·subst h
  simp [ZCG, rowT, ZAG, setL]
 ·rw [if_neg h]
  simp only [ZCG, if_pos (show j < i by omega)]
theorem natL (k : Nat) : nadd 0 (((k + 1 : Nat) : Int) - 1).toNat = k := by simp [ZAI]
theorem ZL9 (n nw ty : Nat) (hs : Nat -> Int) (X : MS) (t : Nat) (v : Int) (ht : t < n) (hn : n <= 64) (hnw : nw <= 4096) (hT : X.S.T = ty) (hok : X.S.inv n) (hi : X.i <= 90000) (hv : X.S.ss.st t = v) (hv2 : v = 1 \/ v = 3) (e : Int) (l : Bool) (S' : LK) (s' : PS) (hr : X.mid n nw t = (⟨e, true, true, l⟩, S', s')) :
  ZAC Tryz.prog 94 (ZBt n nw ty 3 hs X) 5 [.l (.p 0 0 0 0), .l (.v (.int .i64 t))] fun x h k =>
   x = ZAW true /\ k = 6 /\ h = ZBt n nw ty 5 hs ((MS.mk S' s' X.i X.rows X.now X.idle (updF X.sp t (incZ (X.sp t)))).did ⟨e, true, true, l⟩ t) := by
 have hst := ZFO X.S n t hn
 have hin : inW n (t : Int) = true := by simp [inW]; omega
 simp only [stV, hin, pick, Int.toNat_natCast, hv] at hst
 have hsp := ZLP X.S n n nw t t X.now hs X.s ht hn hn hnw hok
 unfold MS.mid at hr
 rw [hr] at hsp
 rw [hT] at hst hsp
 refine sE Tryz.func94 ic94_eq [.t 4] fun G hP hA => ?_
 unfold evF ic94 MS.did
 rcases hv2 with rfl | rfl
 all_goals
  have h0 := ZAh ty n (X.i) X.now X.idle 2 t (X.rows) (by omega)
  have h1 := ZAh ty n (X.i + 1) X.now X.idle 3 t (ZCG (X.rows) (X.i) (rowT 2 t X.now false)) (by omega)
  have ha := ZAh ty n (X.i + 1 + 1) X.now X.idle 4 t (ZCG (ZCG (X.rows) (X.i) (rowT 2 t X.now false)) (X.i + 1) (rowT 3 t X.now false)) (by omega)
  have hb := ZAh ty n (X.i + 1 + 1) X.now X.idle 5 t (ZCG (ZCG (X.rows) (X.i) (rowT 2 t X.now false)) (X.i + 1) (rowT 3 t X.now false)) (by omega)
  have hc := ZAh ty n (X.i + 1 + 1) X.now X.idle 8 t (ZCG (ZCG (X.rows) (X.i) (rowT 2 t X.now false)) (X.i + 1) (rowT 3 t X.now false)) (by omega)
  have hd := ZAh ty n (X.i + 1 + 1) X.now X.idle 7 t (ZCG (ZCG (X.rows) (X.i) (rowT 2 t X.now false)) (X.i + 1) (rowT 3 t X.now false)) (by omega)
  by_cases e1 : e = 1 <;> by_cases e2 : e = 2 <;> by_cases e6 : e = 6 <;> by_cases e3 : e = 3
  all_goals first | (exfalso; omega) | skip
  all_goals
   simp only [e1, e2, e6, e3, Int.reduceEq, decide_true, decide_false, pick]
   conv => whnf
   refine gr8 natL h0 h1 ha hb hc hd hst hsp ?_
   refine fQ ?_ ?_
   ·rfl
   ·first
     | exact ⟨rfl, ZAA, ZAA, ⟨rfl, rfl, fun j hj => rfl⟩, ⟨rfl, rfl, fun j hj => updM X.sp t _ j⟩, trivial⟩
     | exact ⟨rfl, ZAA, ZAA, ⟨rfl, rfl, fun j hj => ZOq _ _ _ _ _ _ j hj⟩, ⟨rfl, rfl, fun j hj => updM X.sp t _ j⟩, trivial⟩
theorem ZMA (n nw ty : Nat) (hs : Nat -> Int) (X : MS) (t : Nat) (v : Int) (ht : t < n) (hn : n <= 64) (hnw : nw <= 4096) (hT : X.S.T = ty) (hok : X.S.inv n) (hi : X.i <= 90000) (hv : X.S.ss.st t = v) (hv2 : v = 1 \/ v = 3) (e : Int) (l : Bool) (S' : LK) (s' : PS) (hr : X.mid n nw t = (⟨e, true, false, l⟩, S', s')) :
  ZAC Tryz.prog 94 (ZBt n nw ty 3 hs X) 5 [.l (.p 0 0 0 0), .l (.v (.int .i64 t))] fun x h k =>
   x = ZAW true /\ k = 6 /\ h = ZBt n nw ty 5 hs ((MS.mk S' s' X.i X.rows X.now X.idle (updF X.sp t (incZ (X.sp t)))).did ⟨e, true, false, l⟩ t) := by
 have hst := ZFO X.S n t hn
 have hin : inW n (t : Int) = true := by simp [inW]; omega
 simp only [stV, hin, pick, Int.toNat_natCast, hv] at hst
 have hsp := ZLP X.S n n nw t t X.now hs X.s ht hn hn hnw hok
 unfold MS.mid at hr
 rw [hr] at hsp
 rw [hT] at hst hsp
 refine sE Tryz.func94 ic94_eq [.t 4] fun G hP hA => ?_
 unfold evF ic94 MS.did
 rcases hv2 with rfl | rfl
 all_goals
  have h0 := ZAh ty n (X.i) X.now X.idle 2 t (X.rows) (by omega)
  have ha := ZAh ty n (X.i + 1) X.now X.idle 4 t (ZCG (X.rows) (X.i) (rowT 2 t X.now false)) (by omega)
  have hb := ZAh ty n (X.i + 1) X.now X.idle 5 t (ZCG (X.rows) (X.i) (rowT 2 t X.now false)) (by omega)
  have hc := ZAh ty n (X.i + 1) X.now X.idle 8 t (ZCG (X.rows) (X.i) (rowT 2 t X.now false)) (by omega)
  have hd := ZAh ty n (X.i + 1) X.now X.idle 7 t (ZCG (X.rows) (X.i) (rowT 2 t X.now false)) (by omega)
  by_cases e1 : e = 1 <;> by_cases e2 : e = 2 <;> by_cases e6 : e = 6 <;> by_cases e3 : e = 3
  all_goals first | (exfalso; omega) | skip
  all_goals
   simp only [e1, e2, e6, e3, Int.reduceEq, decide_true, decide_false, pick]
   conv => whnf
   refine gr7 natL h0 ha hb hc hd hst hsp ?_
   refine fQ ?_ ?_
   ·rfl
   ·first
     | exact ⟨rfl, ZAA, ZAA, ⟨rfl, rfl, fun j hj => rfl⟩, ⟨rfl, rfl, fun j hj => updM X.sp t _ j⟩, trivial⟩
     | exact ⟨rfl, ZAA, ZAA, ⟨rfl, rfl, fun j hj => ZOq _ _ _ _ _ _ j hj⟩, ⟨rfl, rfl, fun j hj => updM X.sp t _ j⟩, trivial⟩
theorem ZMB (n nw ty : Nat) (hs : Nat -> Int) (X : MS) (t : Nat) (v : Int) (ht : t < n) (hn : n <= 64) (hnw : nw <= 4096) (hT : X.S.T = ty) (hok : X.S.inv n) (hi : X.i <= 90000) (hv : X.S.ss.st t = v) (hv2 : v = 1 \/ v = 3) (e : Int) (l : Bool) (S' : LK) (s' : PS) (hr : X.mid n nw t = (⟨e, false, true, l⟩, S', s')) :
  ZAC Tryz.prog 94 (ZBt n nw ty 3 hs X) 5 [.l (.p 0 0 0 0), .l (.v (.int .i64 t))] fun x h k =>
   x = ZAW true /\ k = 6 /\ h = ZBt n nw ty 5 hs ((MS.mk S' s' X.i X.rows X.now X.idle (updF X.sp t (incZ (X.sp t)))).did ⟨e, false, true, l⟩ t) := by
 have hst := ZFO X.S n t hn
 have hin : inW n (t : Int) = true := by simp [inW]; omega
 simp only [stV, hin, pick, Int.toNat_natCast, hv] at hst
 have hsp := ZLP X.S n n nw t t X.now hs X.s ht hn hn hnw hok
 unfold MS.mid at hr
 rw [hr] at hsp
 rw [hT] at hst hsp
 refine sE Tryz.func94 ic94_eq [.t 4] fun G hP hA => ?_
 unfold evF ic94 MS.did
 rcases hv2 with rfl | rfl
 all_goals
  have h0 := ZAh ty n (X.i) X.now X.idle 3 t (X.rows) (by omega)
  have ha := ZAh ty n (X.i + 1) X.now X.idle 4 t (ZCG (X.rows) (X.i) (rowT 3 t X.now false)) (by omega)
  have hb := ZAh ty n (X.i + 1) X.now X.idle 5 t (ZCG (X.rows) (X.i) (rowT 3 t X.now false)) (by omega)
  have hc := ZAh ty n (X.i + 1) X.now X.idle 8 t (ZCG (X.rows) (X.i) (rowT 3 t X.now false)) (by omega)
  have hd := ZAh ty n (X.i + 1) X.now X.idle 7 t (ZCG (X.rows) (X.i) (rowT 3 t X.now false)) (by omega)
  by_cases e1 : e = 1 <;> by_cases e2 : e = 2 <;> by_cases e6 : e = 6 <;> by_cases e3 : e = 3
  all_goals first | (exfalso; omega) | skip
  all_goals
   simp only [e1, e2, e6, e3, Int.reduceEq, decide_true, decide_false, pick]
   conv => whnf
   refine gr7 natL h0 ha hb hc hd hst hsp ?_
   refine fQ ?_ ?_
   ·rfl
   ·first
     | exact ⟨rfl, ZAA, ZAA, ⟨rfl, rfl, fun j hj => rfl⟩, ⟨rfl, rfl, fun j hj => updM X.sp t _ j⟩, trivial⟩
     | exact ⟨rfl, ZAA, ZAA, ⟨rfl, rfl, fun j hj => ZOq _ _ _ _ _ _ j hj⟩, ⟨rfl, rfl, fun j hj => updM X.sp t _ j⟩, trivial⟩
theorem ZMC (n nw ty : Nat) (hs : Nat -> Int) (X : MS) (t : Nat) (v : Int) (ht : t < n) (hn : n <= 64) (hnw : nw <= 4096) (hT : X.S.T = ty) (hok : X.S.inv n) (hi : X.i <= 90000) (hv : X.S.ss.st t = v) (hv2 : v = 1 \/ v = 3) (e : Int) (l : Bool) (S' : LK) (s' : PS) (hr : X.mid n nw t = (⟨e, false, false, l⟩, S', s')) :
  ZAC Tryz.prog 94 (ZBt n nw ty 3 hs X) 5 [.l (.p 0 0 0 0), .l (.v (.int .i64 t))] fun x h k =>
   x = ZAW true /\ k = 6 /\ h = ZBt n nw ty 5 hs ((MS.mk S' s' X.i X.rows X.now X.idle (updF X.sp t (incZ (X.sp t)))).did ⟨e, false, false, l⟩ t) := by
 have hst := ZFO X.S n t hn
 have hin : inW n (t : Int) = true := by simp [inW]; omega
 simp only [stV, hin, pick, Int.toNat_natCast, hv] at hst
 have hsp := ZLP X.S n n nw t t X.now hs X.s ht hn hn hnw hok
 unfold MS.mid at hr
 rw [hr] at hsp
 rw [hT] at hst hsp
 refine sE Tryz.func94 ic94_eq [.t 4] fun G hP hA => ?_
 unfold evF ic94 MS.did
 rcases hv2 with rfl | rfl
 all_goals
  have ha := ZAh ty n (X.i) X.now X.idle 4 t (X.rows) (by omega)
  have hb := ZAh ty n (X.i) X.now X.idle 5 t (X.rows) (by omega)
  have hc := ZAh ty n (X.i) X.now X.idle 8 t (X.rows) (by omega)
  have hd := ZAh ty n (X.i) X.now X.idle 7 t (X.rows) (by omega)
  by_cases e1 : e = 1 <;> by_cases e2 : e = 2 <;> by_cases e6 : e = 6 <;> by_cases e3 : e = 3
  all_goals first | (exfalso; omega) | skip
  all_goals
   simp only [e1, e2, e6, e3, Int.reduceEq, decide_true, decide_false, pick]
   conv => whnf
   refine gr6 natL ha hb hc hd hst hsp ?_
   refine fQ ?_ ?_
   ·rfl
   ·first
     | exact ⟨rfl, ZAA, ZAA, ⟨rfl, rfl, fun j hj => rfl⟩, ⟨rfl, rfl, fun j hj => updM X.sp t _ j⟩, trivial⟩
     | exact ⟨rfl, ZAA, ZAA, ⟨rfl, rfl, fun j hj => ZOq _ _ _ _ _ _ j hj⟩, ⟨rfl, rfl, fun j hj => updM X.sp t _ j⟩, trivial⟩
structure MOk (n ty : Nat) (X : MS) : Prop where
 T : X.S.T = ty
 inv : X.S.inv n
 now : 0 <= X.now /\ X.now <= 1099511627776
 i : X.i <= 90000
theorem ZKR (n nw ty : Nat) (hs : Nat -> Int) (X : MS) (t v : Int) (hn : n <= 64) (hT : X.S.T = ty) (hv : stV n X.S.ss.st t = v) (h1 : ¬ v = 1) (h3 : ¬ v = 3) :
  ZAC Tryz.prog 94 (ZBt n nw ty 3 hs X) 5 [.l (.p 0 0 0 0), .l (.v (.int .i64 t))] fun x h k => x = ZAW false /\ k = 6 /\ h = ZBt n nw ty 5 hs X := by
 have hst := ZFO X.S n t hn
 rw [hv, hT] at hst
 refine sE Tryz.func94 ic94_eq [.t 4] fun G hP hA => ?_
 unfold evF ic94
 conv => whnf
 refine g1 hst ?_
 exact fA
theorem MS.busy_in {n : Nat} {X : MS} {t : Int} (h : X.busy n t = true) : ∃ i : Nat, i < n /\ t = i /\ (X.S.ss.st i = 1 \/ X.S.ss.st i = 3) := by
 unfold MS.busy at h
 rcases ZAm n t with ⟨hb, i, hi, rfl⟩ | ⟨hb, ho⟩
 ·refine ⟨i, hi, rfl, ?_⟩
  simpa [stV, hb, pick] using h
 ·simp [stV, hb, pick] at h
theorem ZHy (n nw ty : Nat) (hs : Nat -> Int) (X : MS) (t : Int) (hn : n <= 64) (hnw : nw <= 4096) (H : MOk n ty X) :
  ZAC Tryz.prog 94 (ZBt n nw ty 3 hs X) 5 [.l (.p 0 0 0 0), .l (.v (.int .i64 t))] fun x h k => x = ZAW (X.stp n nw t).1 /\ k = 6 /\ h = ZBt n nw ty 5 hs (X.stp n nw t).2 := by
 unfold MS.stp
 cases hb : X.busy n t with
 | true =>
  obtain ⟨i, hi, rfl, hv⟩ := MS.busy_in hb
  simp only [Int.toNat_natCast]
  rcases hr : X.mid n nw i with ⟨⟨e, q, a, l⟩, S', s'⟩
  cases q <;> cases a
  ·exact ZMC n nw ty hs X i _ hi hn hnw H.T H.inv H.i rfl hv e l S' s' hr
  ·exact ZMB n nw ty hs X i _ hi hn hnw H.T H.inv H.i rfl hv e l S' s' hr
  ·exact ZMA n nw ty hs X i _ hi hn hnw H.T H.inv H.i rfl hv e l S' s' hr
  ·exact ZL9 n nw ty hs X i _ hi hn hnw H.T H.inv H.i rfl hv e l S' s' hr
 | false =>
  simp only [MS.busy, Bool.or_eq_false_iff, decide_eq_false_iff_not] at hb
  exact ZKR n nw ty hs X t _ hn H.T rfl hb.1 hb.2
def MS.till (X : MS) (w : Int) : Int := pick (decide (0 <= w)) (X.now + min w 1073741824) (-1)
def MS.wS (X : MS) (S : LK) : MS := ⟨S, X.s, X.i, X.rows, X.now, X.idle, X.sp⟩
def MS.cal (n : Nat) (X : MS) (t w : Int) : Bool × MS :=
 pick (decide (lkE n X.S.ss.st X.S.tm t (X.till w) = 0)) (true, (X.wS (X.S.lock n t (X.till w))).ent 1 t false) (false, X.wS (X.S.lock n t (X.till w)))
theorem ZHz (n nw ty : Nat) (hs : Nat -> Int) (X : MS) (t w : Int) (hn : n <= 64) (H : MOk n ty X) :
  ZAC Tryz.prog 96 (ZBt n nw ty 3 hs X) 5 [.l (.p 0 0 0 0), .l (.v (.int .i64 t)), .l (.v (.int .i64 w))] fun x h k => x = ZAW (X.cal n t w).1 /\ k = 6 /\ h = ZBt n nw ty 5 hs (X.cal n t w).2 := by
 obtain ⟨hT, hinv, hnow, hi⟩ := H
 have hen := ZAh ty n X.i X.now X.idle 1 t X.rows (by omega)
 refine sE Tryz.func96 ic96_eq [.t 6] fun G hP hA => ?_
 unfold evF ic96 MS.cal
 by_cases h0 : 0 <= w
 ·have hlk := ZPO X.S n t (X.now + min w 1073741824) hn
  simp only [MS.till, h0, decide_true, pick]
  by_cases e : lkE n X.S.ss.st X.S.tm t (X.now + min w 1073741824) = 0
  ·rw [e, hT] at hlk
   simp only [e, decide_true]
   conv => whnf
   refine g2 hen hlk ?_
   exact fA
  ·rw [hT] at hlk
   simp only [e, decide_false]
   conv => whnf
   refine g2 hen hlk ?_
   exact fA
 ·have hlk := ZPO X.S n t (-1) hn
  simp only [MS.till, h0, decide_false, pick]
  by_cases e : lkE n X.S.ss.st X.S.tm t (-1) = 0
  ·rw [e, hT] at hlk
   simp only [e, decide_true]
   conv => whnf
   refine g2 hen hlk ?_
   exact fA
  ·rw [hT] at hlk
   simp only [e, decide_false]
   conv => whnf
   refine g2 hen hlk ?_
   exact fA
def MS.tck (X : MS) : Bool × MS := pick (decide (1099511627776 <= X.now)) (false, X) (true, ⟨X.S, X.s, X.i, X.rows, X.now + 1, X.idle, X.sp⟩)
theorem ZH0 (n nw ty : Nat) (hs : Nat -> Int) (X : MS) (H : MOk n ty X) :
  ZAC Tryz.prog 95 (ZBt n nw ty 3 hs X) 5 [.l (.p 0 0 0 0)] fun x h k => x = ZAW X.tck.1 /\ k = 6 /\ h = ZBt n nw ty 5 hs X.tck.2 := by
 obtain ⟨hT, hinv, hnow, hi⟩ := H
 refine sE Tryz.func95 ic95_eq [.t 2] fun G hP hA => ?_
 unfold evF ic95 MS.tck
 by_cases e : 1099511627776 <= X.now
 ·simp only [e, decide_true, pick]
  conv => whnf
  refine g0 ?_
  exact fA
 ·simp only [e, decide_false, pick]
  conv => whnf
  refine g0 ?_
  exact fA
def MS.fin (n : Nat) (X : MS) (t : Int) : Bool × MS := pick (decide (hoE n X.S.ss.st t = 0)) (true, (X.wS (X.S.unlock n t)).ent 6 t false) (false, X.wS (X.S.unlock n t))
def MS.do0 (n nw : Nat) (X : MS) (k t w : Int) : Bool × MS :=
 pick (decide (k = 1)) (X.stp n nw t) (pick (decide (k = 2)) X.tck (pick (decide (k = 3)) (X.cal n t w) (pick (decide (k = 4)) (X.fin n t) (false, X))))
def evA (k t w : Int) : AV := .a [.v (.int .i64 k), .v (.int .i64 t), .v (.int .i64 w)]
theorem ZI9 (n nw ty : Nat) (hs : Nat -> Int) (X : MS) (kd t w : Int) (hn : n <= 64) (hnw : nw <= 4096) (H : MOk n ty X) :
  ZAC Tryz.prog 56 (ZBt n nw ty 3 hs X) 5 [.l (.p 0 0 0 0), evA kd t w] fun x h k => x = ZAW (X.do0 n nw kd t w).1 /\ k = 6 /\ h = ZBt n nw ty 5 hs (X.do0 n nw kd t w).2 := by
 have hsp := ZHy n nw ty hs X t hn hnw H
 have htk := ZH0 n nw ty hs X H
 have hcl := ZHz n nw ty hs X t w hn H
 obtain ⟨hT, hinv, hnow, hi⟩ := H
 have hen := ZAh ty n X.i X.now X.idle 6 t X.rows (by omega)
 have hul := ZOp X.S n t hn
 refine sE Tryz.func56 ic56_eq [.t 4] fun G hP hA => ?_
 unfold evF ic56 MS.do0
 by_cases k1 : kd = 1
 ·simp only [k1, decide_true, pick]
  conv => whnf
  refine g1 hsp ?_
  exact fA
 by_cases k2 : kd = 2
 ·simp only [Int.reduceEq, k2, decide_true, decide_false, pick]
  conv => whnf
  refine g1 htk ?_
  exact fA
 by_cases k3 : kd = 3
 ·simp only [Int.reduceEq, k3, decide_true, decide_false, pick]
  conv => whnf
  refine g1 hcl ?_
  exact fA
 by_cases k4 : kd = 4
 ·simp only [Int.reduceEq, k4, decide_true, decide_false, pick, MS.fin]
  by_cases e : hoE n X.S.ss.st t = 0
  ·rw [e, hT] at hul
   simp only [e, decide_true]
   conv => whnf
   refine g2 hen hul ?_
   exact fA
  ·rw [hT] at hul
   simp only [e, decide_false]
   conv => whnf
   refine g2 hen hul ?_
   exact fA
 ·simp only [k1, k2, k3, k4, decide_false, pick]
  conv => whnf
  refine g0 ?_
  exact fA
def MS.Do (n nw : Nat) (X : MS) (k t w : Int) : Bool × MS :=
 match X.do0 n nw k t w with
 | (true, Y) => (true, Y)
 | (false, Y) => (false, ⟨Y.S, Y.s, Y.i, Y.rows, Y.now, incZ Y.idle, Y.sp⟩)
theorem ZKS (n nw ty : Nat) (hs : Nat -> Int) (X : MS) (kd t w : Int) (hn : n <= 64) (hnw : nw <= 4096) (H : MOk n ty X) :
  ZAC Tryz.prog 24 (ZBt n nw ty 3 hs X) 5 [.l (.p 0 0 0 0), evA kd t w] fun x h k => x = ZAW (X.Do n nw kd t w).1 /\ k = 6 /\ h = ZBt n nw ty 5 hs (X.Do n nw kd t w).2 := by
 have hd := ZI9 n nw ty hs X kd t w hn hnw H
 refine sE Tryz.func24 ic24_eq [.t 4] fun G hP hA => ?_
 unfold evF ic24 MS.Do
 rcases hr : X.do0 n nw kd t w with ⟨b, Y⟩
 rw [hr] at hd
 cases b
 ·simp only
  conv => whnf
  refine g1 hd ?_
  exact fA
 ·simp only
  conv => whnf
  refine g1 hd ?_
  exact fA
def ZHE (n : Int) : Bool := decide (n = 1) || decide (n = 2) || decide (n = 4) || decide (n = 8) || decide (n = 16) || decide (n = 32) || decide (n = 64)
theorem ZPN {n : Int} (h : ZHE n = true) : ∃ k : Nat, n = k /\ ZCa k := by
 simp only [ZHE, Bool.or_eq_true, decide_eq_true_eq] at h
 refine ⟨n.toNat, by omega, ?_⟩
 unfold ZCa
 omega
theorem ZKA (n : Int) : ZAC Tryz.prog 54 [] 0 [.l (.v (.int .i64 n))] fun x h k => x = ZAW (ZHE n) /\ k = 0 /\ h = [] := by
 refine sE Tryz.func54 ic54_eq [.t 2] fun G hP hA => ?_
 unfold evF ic54
 conv => whnf
 refine ZAf (α := Nat) (ds := []) (N := 0) (fun i => [(3, sInt .i64 (sizN i))]) [] (fun _ => [])
  (fun i => i <= 7 /\ ∀ j, j < i -> n ≠ sizN j) (fun i => 7 - i) 0 ⟨Nat.zero_le _, fun j hj => absurd hj (Nat.not_lt_zero j)⟩ ?_ fun i hi => ?_
 ·exact iA
 ·obtain ⟨hi, hn⟩ := hi
  have next : ∀ {i : Nat}, (∀ j, j < i -> n ≠ sizN j) -> ¬ sizN i = n -> ∀ j, j < i + 1 -> n ≠ sizN j := fun {i} hn h j hj => by
   rcases Nat.lt_succ_iff_lt_or_eq.1 hj with hj | rfl
   ·exact hn j hj
   ·exact fun e => h e.symm
  rcases (show i = 0 \/ i = 1 \/ i = 2 \/ i = 3 \/ i = 4 \/ i = 5 \/ i = 6 \/ i = 7 by omega) with rfl | rfl | rfl | rfl | rfl | rfl | rfl | rfl
  ·conv => whnf
   refine dsplit (fun h1 => ?_) (fun h1 => ?_)
   ·replace h1 : sizN 0 = n := h1
    subst h1
    conv => whnf
    refine fB ?_
    rfl
   ·conv => whnf
    refine zP ?_
    refine ⟨1, ⟨by omega, next hn h1⟩, by omega, ?_⟩
    exact iA
  ·conv => whnf
   refine dsplit (fun h1 => ?_) (fun h1 => ?_)
   ·replace h1 : sizN 1 = n := h1
    subst h1
    conv => whnf
    refine fB ?_
    rfl
   ·conv => whnf
    refine zP ?_
    refine ⟨2, ⟨by omega, next hn h1⟩, by omega, ?_⟩
    exact iA
  ·conv => whnf
   refine dsplit (fun h1 => ?_) (fun h1 => ?_)
   ·replace h1 : sizN 2 = n := h1
    subst h1
    conv => whnf
    refine fB ?_
    rfl
   ·conv => whnf
    refine zP ?_
    refine ⟨3, ⟨by omega, next hn h1⟩, by omega, ?_⟩
    exact iA
  ·conv => whnf
   refine dsplit (fun h1 => ?_) (fun h1 => ?_)
   ·replace h1 : sizN 3 = n := h1
    subst h1
    conv => whnf
    refine fB ?_
    rfl
   ·conv => whnf
    refine zP ?_
    refine ⟨4, ⟨by omega, next hn h1⟩, by omega, ?_⟩
    exact iA
  ·conv => whnf
   refine dsplit (fun h1 => ?_) (fun h1 => ?_)
   ·replace h1 : sizN 4 = n := h1
    subst h1
    conv => whnf
    refine fB ?_
    rfl
   ·conv => whnf
    refine zP ?_
    refine ⟨5, ⟨by omega, next hn h1⟩, by omega, ?_⟩
    exact iA
  ·conv => whnf
   refine dsplit (fun h1 => ?_) (fun h1 => ?_)
   ·replace h1 : sizN 5 = n := h1
    subst h1
    conv => whnf
    refine fB ?_
    rfl
   ·conv => whnf
    refine zP ?_
    refine ⟨6, ⟨by omega, next hn h1⟩, by omega, ?_⟩
    exact iA
  ·conv => whnf
   refine dsplit (fun h1 => ?_) (fun h1 => ?_)
   ·replace h1 : sizN 6 = n := h1
    subst h1
    conv => whnf
    refine fB ?_
    rfl
   ·conv => whnf
    refine zP ?_
    refine ⟨7, ⟨by omega, next hn h1⟩, by omega, ?_⟩
    exact iA
  ·conv => whnf
   refine fB ?_
   have := hn 0 (by omega)
   have := hn 1 (by omega)
   have := hn 2 (by omega)
   have := hn 3 (by omega)
   have := hn 4 (by omega)
   have := hn 5 (by omega)
   have := hn 6 (by omega)
   simp only [sizN] at *
   simp [ZHE, *]
theorem ZIk (h : Nat -> Int) (m : Nat) (hm : m <= 1000000) : ZAC Tryz.prog 53 [(0, some (.ro 1 m (numE h)))] 1 [.l (.s 0 1 0 m 0)] fun x h' k => x = ZAW (!anyZ badH h m) /\ k = 1 /\ h' = [] := by
 refine sE Tryz.func53 ic53_eq [.t 2] fun G hP hA => ?_
 unfold evF ic53
 conv => whnf
 refine ZAf (α := Nat) (ds := []) (N := 1) (fun i => [(7, sInt .i64 (i : Int))]) [] (fun _ => []) (fun i => i <= m /\ anyZ badH h i = false) (fun i => m - i) 0 ⟨Nat.zero_le _, rfl⟩ ?_ fun i hi => ?_
 ·exact iA
 ·obtain ⟨hi0, hi1⟩ := hi
  have hni : nadd 0 ((i : Nat) : Int).toNat = i := by simp [ZAI]
  conv => whnf
  refine dsplit (fun h2 => ?_) (fun h2 => ?_)
  ·replace h2 : (i : Int) < (m : Int) := h2
   conv => whnf
   refine zP ?_
   rw [hni]
   conv => whnf
   refine dsplit (fun h3 => ?_) (fun h3 => ?_)
   ·have hb : badH (h i) = true := by unfold badH; rw [decide_eq_true h3]; rfl
    conv => whnf
    refine fB ?_
    rw [ZFu (show i < m by omega) hb]; rfl
   ·conv => whnf
    refine dsplit (fun h4 => ?_) (fun h4 => ?_)
    ·have hb : badH (h i) = true := by unfold badH; rw [decide_eq_true (show 8 <= h i by have : 7 < h i := h4; omega), Bool.or_true]
     conv => whnf
     refine fB ?_
     rw [ZFu (show i < m by omega) hb]; rfl
    ·conv => whnf
     refine zP ?_
     refine ⟨i + 1, ⟨by omega, ?_⟩, by omega, ?_⟩
     ·have h5 : ¬ 7 < h i := h4
      simp only [anyZ, hi1, Bool.false_or, badH, decide_eq_false h3, decide_eq_false (show ¬ 8 <= h i by omega)]
     ·exact iA
  ·replace h2 : ¬ (i : Int) < (m : Int) := h2
   obtain rfl : i = m := by omega
   conv => whnf
   refine fB ?_
   rw [hi1]; rfl
def ZB4 (kind : Int) (m : Nat) (h : Nat -> Int) (slots pool budget glob loc : Int) : Int :=
 if kind < 1 \/ 7 < kind then 7 else if m < 1 \/ 64 < m \/ anyZ badH h m = true then 1 else
 if kind = 2 /\ (ZHE slots = false \/ slots < m) then 7 else if kind = 5 /\ (pool < 1 \/ 8 < pool) then 7 else
 if kind = 7 /\ (¬ (glob = 1 \/ glob = 4) \/ ¬ (loc = 1 \/ loc = 3 \/ loc = 4) \/ budget < 1 \/ 1000 < budget) then 7 else 0
theorem ZMq (kind : Int) (m : Nat) (h : Nat -> Int) (start slots pool budget glob loc : Int) (hm : m <= 80) :
  ZAC Tryz.prog 17 [(0, some (.ro 1 m (numE h)))] 1 [ZB5 kind 0 m start slots pool budget glob loc] fun x h' k => x = sInt .i64 (ZB4 kind m h slots pool budget glob loc) /\ k = 1 /\ h' = [] := by
 have hho := ZIk h m (by omega)
 have hsz := ZKA slots
 refine sE Tryz.func17 ic17_eq [.t 2] fun G hP hA => ?_
 unfold evF ic17
 by_cases hk : kind < 1 \/ 7 < kind
 ·have hc : ZB4 kind m h slots pool budget glob loc = 7 := by unfold ZB4; rw [if_pos hk]
  conv => whnf
  (repeat' (first | (refine ZAF ?_; conv => whnf) | (refine dsplit (fun _ => ?_) (fun _ => ?_) <;> conv => whnf)))
  all_goals first | (exfalso; omega) | skip
  all_goals (refine fI ?_; exact hc.symm)
 by_cases h1 : m < 1 \/ 64 < m
 ·have hc : ZB4 kind m h slots pool budget glob loc = 1 := by unfold ZB4; rw [if_neg hk, if_pos (by omega)]
  conv => whnf
  (repeat' (first | (refine ZAF ?_; conv => whnf) | (refine dsplit (fun _ => ?_) (fun _ => ?_) <;> conv => whnf)))
  all_goals first | (exfalso; omega) | skip
  all_goals (refine fI ?_; exact hc.symm)
 cases hb : anyZ badH h m with
 | true =>
  have hc : ZB4 kind m h slots pool budget glob loc = 1 := by unfold ZB4; rw [if_neg hk, if_pos (by simp [hb])]
  rw [hb] at hho
  conv => whnf
  (repeat' (first | (refine ZAF ?_; conv => whnf) | (refine dsplit (fun _ => ?_) (fun _ => ?_) <;> conv => whnf)))
  all_goals first | (exfalso; omega) | skip
  refine cA (hho) ?_
  refine fI ?_
  exact hc.symm
 | false =>
  rw [hb] at hho
  have hc0 : ZB4 kind m h slots pool budget glob loc = if kind = 2 /\ (ZHE slots = false \/ slots < m) then 7 else if kind = 5 /\ (pool < 1 \/ 8 < pool) then 7 else
    if kind = 7 /\ (¬ (glob = 1 \/ glob = 4) \/ ¬ (loc = 1 \/ loc = 3 \/ loc = 4) \/ budget < 1 \/ 1000 < budget) then 7 else 0 := by
   unfold ZB4; rw [if_neg hk, if_neg (by simp [hb]; omega)]
  rcases (show kind = 1 \/ kind = 2 \/ kind = 3 \/ kind = 4 \/ kind = 5 \/ kind = 6 \/ kind = 7 by omega) with rfl | rfl | rfl | rfl | rfl | rfl | rfl
  ·have hc : ZB4 1 m h slots pool budget glob loc = 0 := by rw [hc0, if_neg (by omega), if_neg (by omega), if_neg (by omega)]
   conv => whnf
   (repeat' (first | (refine ZAF ?_; conv => whnf) | (refine dsplit (fun _ => ?_) (fun _ => ?_) <;> conv => whnf)))
   all_goals first | (exfalso; omega) | skip
   refine cA (hho) ?_
   (repeat' (first | (refine ZAF ?_; conv => whnf) | (refine dsplit (fun _ => ?_) (fun _ => ?_) <;> conv => whnf)))
   refine fI ?_
   exact hc.symm
  ·cases hs : ZHE slots with
   | false =>
    rw [hs] at hsz
    have hc : ZB4 2 m h slots pool budget glob loc = 7 := by rw [hc0, if_pos ⟨rfl, .inl hs⟩]
    conv => whnf
    (repeat' (first | (refine ZAF ?_; conv => whnf) | (refine dsplit (fun _ => ?_) (fun _ => ?_) <;> conv => whnf)))
    all_goals first | (exfalso; omega) | skip
    refine cA (hho) ?_
    (repeat' (first | (refine ZAF ?_; conv => whnf) | (refine dsplit (fun _ => ?_) (fun _ => ?_) <;> conv => whnf)))
    refine cA (hsz) ?_
    refine fI ?_
    exact hc.symm
   | true =>
    rw [hs] at hsz
    conv => whnf
    (repeat' (first | (refine ZAF ?_; conv => whnf) | (refine dsplit (fun _ => ?_) (fun _ => ?_) <;> conv => whnf)))
    all_goals first | (exfalso; omega) | skip
    refine cA (hho) ?_
    (repeat' (first | (refine ZAF ?_; conv => whnf) | (refine dsplit (fun _ => ?_) (fun _ => ?_) <;> conv => whnf)))
    refine cA (hsz) ?_
    (repeat' (first | (refine ZAF ?_; conv => whnf) | (refine dsplit (fun _ => ?_) (fun _ => ?_) <;> conv => whnf)))
    all_goals (refine fI ?_; rw [hc0])
    ·rename_i hh
     rw [if_pos ⟨rfl, .inr hh⟩]
    ·rename_i hh
     rw [if_neg (fun hq => by rcases hq.2 with hq | hq; (rw [hs] at hq; cases hq); exact hh hq), if_neg (by omega), if_neg (by omega)]
  ·have hc : ZB4 3 m h slots pool budget glob loc = 0 := by rw [hc0, if_neg (by omega), if_neg (by omega), if_neg (by omega)]
   conv => whnf
   (repeat' (first | (refine ZAF ?_; conv => whnf) | (refine dsplit (fun _ => ?_) (fun _ => ?_) <;> conv => whnf)))
   all_goals first | (exfalso; omega) | skip
   refine cA (hho) ?_
   (repeat' (first | (refine ZAF ?_; conv => whnf) | (refine dsplit (fun _ => ?_) (fun _ => ?_) <;> conv => whnf)))
   refine fI ?_
   exact hc.symm
  ·have hc : ZB4 4 m h slots pool budget glob loc = 0 := by rw [hc0, if_neg (by omega), if_neg (by omega), if_neg (by omega)]
   conv => whnf
   (repeat' (first | (refine ZAF ?_; conv => whnf) | (refine dsplit (fun _ => ?_) (fun _ => ?_) <;> conv => whnf)))
   all_goals first | (exfalso; omega) | skip
   refine cA (hho) ?_
   (repeat' (first | (refine ZAF ?_; conv => whnf) | (refine dsplit (fun _ => ?_) (fun _ => ?_) <;> conv => whnf)))
   refine fI ?_
   exact hc.symm
  ·conv => whnf
   (repeat' (first | (refine ZAF ?_; conv => whnf) | (refine dsplit (fun _ => ?_) (fun _ => ?_) <;> conv => whnf)))
   all_goals first | (exfalso; omega) | skip
   refine cA (hho) ?_
   (repeat' (first | (refine ZAF ?_; conv => whnf) | (refine dsplit (fun _ => ?_) (fun _ => ?_) <;> conv => whnf)))
   all_goals (refine fI ?_; rw [hc0, if_neg (by omega)])
   all_goals (repeat' split)
   all_goals first | rfl | (exfalso; omega)
  ·have hc : ZB4 6 m h slots pool budget glob loc = 0 := by rw [hc0, if_neg (by omega), if_neg (by omega), if_neg (by omega)]
   conv => whnf
   (repeat' (first | (refine ZAF ?_; conv => whnf) | (refine dsplit (fun _ => ?_) (fun _ => ?_) <;> conv => whnf)))
   all_goals first | (exfalso; omega) | skip
   refine cA (hho) ?_
   (repeat' (first | (refine ZAF ?_; conv => whnf) | (refine dsplit (fun _ => ?_) (fun _ => ?_) <;> conv => whnf)))
   refine fI ?_
   exact hc.symm
  ·conv => whnf
   (repeat' (first | (refine ZAF ?_; conv => whnf) | (refine dsplit (fun _ => ?_) (fun _ => ?_) <;> conv => whnf)))
   all_goals first | (exfalso; omega) | skip
   refine cA (hho) ?_
   (repeat' (first | (refine ZAF ?_; conv => whnf) | (refine dsplit (fun _ => ?_) (fun _ => ?_) <;> conv => whnf)))
   all_goals (refine fI ?_; rw [hc0, if_neg (by omega)])
   all_goals (repeat' split)
   all_goals first | rfl | (exfalso; omega)
theorem ZLJ (kind : Int) (m : Nat) (h : Nat -> Int) (start slots pool budget glob loc : Int) :
  ZAC Tryz.prog 18 [(0, some (.ro 1 m (numE h)))] 1 [ZB5 kind 0 m start slots pool budget glob loc] fun x h' k => x = .o (ZB5 kind 0 m start slots pool budget glob loc) /\ k = 1 /\ h' = [] := by
 refine sE Tryz.func18 ic18_eq [.ca 2 8] fun G hP hA => ?_
 unfold evF ic18
 conv => whnf
 exact fA
theorem ZKB {kind : Int} {m : Nat} {h : Nat -> Int} {slots pool budget glob loc : Int} (hc : ZB4 kind m h slots pool budget glob loc = 0) :
  (1 <= kind /\ kind <= 7) /\ (1 <= m /\ m <= 64) /\ anyZ badH h m = false /\ (kind = 2 -> ZHE slots = true /\ (m : Int) <= slots) /\ (kind = 5 -> 1 <= pool /\ pool <= 8) /\ (kind = 7 -> (glob = 1 \/ glob = 4) /\ (loc = 1 \/ loc = 3 \/ loc = 4) /\ 1 <= budget /\ budget <= 1000) := by
 unfold ZB4 at hc
 by_cases c1 : kind < 1 \/ 7 < kind
 ·rw [if_pos c1] at hc; omega
 rw [if_neg c1] at hc
 by_cases c2 : m < 1 \/ 64 < m \/ anyZ badH h m = true
 ·rw [if_pos c2] at hc; omega
 rw [if_neg c2] at hc
 by_cases c3 : kind = 2 /\ (ZHE slots = false \/ slots < m)
 ·rw [if_pos c3] at hc; omega
 rw [if_neg c3] at hc
 by_cases c4 : kind = 5 /\ (pool < 1 \/ 8 < pool)
 ·rw [if_pos c4] at hc; omega
 rw [if_neg c4] at hc
 by_cases c5 : kind = 7 /\ (¬ (glob = 1 \/ glob = 4) \/ ¬ (loc = 1 \/ loc = 3 \/ loc = 4) \/ budget < 1 \/ 1000 < budget)
 ·rw [if_pos c5] at hc; omega
 have c2' : ¬ (m < 1) /\ ¬ (64 < m) /\ ¬ (anyZ badH h m = true) := ⟨fun q => c2 (.inl q), fun q => c2 (.inr (.inl q)), fun q => c2 (.inr (.inr q))⟩
 refine ⟨by omega, by omega, by simpa using c2'.2.2, fun hk => ⟨?_, ?_⟩, fun hk => by omega, fun hk => by omega⟩
 ·cases hs : ZHE slots with
  | true => rfl
  | false => exact absurd ⟨hk, .inl hs⟩ c3
 ·apply Classical.byContradiction
  intro hq
  exact c3 ⟨hk, .inr (by omega)⟩
theorem ZKT (f : Nat -> List Value) (m : Nat) (hm : m <= 100000) :
  ZAC Tryz.prog 55 [(0, some (.ro 4 m f))] 1 [.l (.s 0 4 0 m 0)] fun x h n => x = .o (.l (.s 1 4 0 m 0)) /\ n = 2 /\ h = [(1, some (.ar 4 m f))] := by
 refine ZAC.nil_ret (Q := fun x h n => (x = .o (.l (.s 1 4 0 m 0)) /\ n = 2 /\ h = [(1, some (.ar 4 m f))]) \/ (m = 0 /\ x = .o (.l (.v (.slice none 0 0))) /\ n = 1 /\ h = [])) ?_ ?_
 ·refine sE Tryz.func55 ic55_eq [.t 2] fun G hP hA => ?_
  unfold evF ic55
  conv => whnf
  refine ZJ8 (el := 46) (by rw [hP]; kernel_rfl) rfl fun b hb => ?_
  conv => whnf
  refine bsplit (fun h => ?_) (fun h => ?_)
  ·conv => whnf
   exact ZCm [0] (.o (.l (.v (.slice none 0 0)))) [] 1 rfl (.inr ⟨hb h, rfl, rfl, rfl⟩) rfl rfl rfl trivial rfl
  ·conv => whnf
   refine zP ?_
   refine ZCm [0, 2] (.o (.l (.s 1 4 0 m 0))) [(1, some (.ar 4 m f))] 2 rfl (.inl ⟨rfl, rfl, rfl⟩) rfl rfl ?_ ?_ rfl
   ·show SV.o (.l (.s 2 4 0 (0 + m) 0)) = _
    rw [Nat.zero_add]; rfl
   ·refine ⟨?_, trivial⟩
    show ZCU _ (.ar 4 (0 + m) _) _
    refine ⟨rfl, Nat.zero_add m, fun i hi => ?_⟩
    simp [ZAI]
 ·intro x h n hx
  rcases hx with ⟨rfl, rfl, rfl⟩ | ⟨rfl, rfl, rfl, rfl⟩
  ·exact .inl ⟨rfl, rfl, rfl⟩
  ·exact .inr ⟨4, f, _, fun ρ h => ZPe ρ h, fun ρ D hD h _ => ZPf ρ D hD h, rfl, rfl, rfl⟩
theorem ZEK (n nw ty : Nat) (hs : Nat -> Int) (X : MS) (hi : X.i <= 90000) :
  ZAC Tryz.prog 21 (ZBt n nw ty 3 hs X) 5 [.l (.p 0 0 0 0)] fun x h k => x = .o (.l (.s 5 4 0 X.i 0)) /\ k = 6 /\ h = ZBt n nw ty 3 hs X ++ [(5, some (.ar 4 X.i X.rows))] := by
 have hc := ZKT X.rows X.i (by omega)
 refine sE Tryz.func21 ic21_eq [.t 2] fun G hP hA => ?_
 unfold evF ic21
 conv => whnf
 refine g1 hc ?_
 exact fA
theorem ZH1 (n nw ty : Nat) (hs : Nat -> Int) (X : MS) :
  ZAC Tryz.prog 20 (ZBt n nw ty 3 hs X) 5 [.l (.p 0 0 0 0)] fun x h k => x = sInt .i64 X.now /\ k = 5 /\ h = ZBt n nw ty 3 hs X := by
 refine sE Tryz.func20 ic20_eq [.t 2] fun G hP hA => ?_
 unfold evF ic20
 conv => whnf
 refine g0 ?_
 exact fA
theorem ZG2 (n nw ty : Nat) (hs : Nat -> Int) (X : MS) :
  ZAC Tryz.prog 22 (ZBt n nw ty 3 hs X) 5 [.l (.p 0 0 0 0)] fun x h k => x = sInt .i64 X.idle /\ k = 5 /\ h = ZBt n nw ty 3 hs X := by
 refine sE Tryz.func22 ic22_eq [.t 2] fun G hP hA => ?_
 unfold evF ic22
 conv => whnf
 refine g0 ?_
 exact fA
theorem ZG3 (n nw ty : Nat) (hs : Nat -> Int) (X : MS) (t : Int) (hn : n <= 64) (hT : X.S.T = ty) :
  ZAC Tryz.prog 25 (ZBt n nw ty 3 hs X) 5 [.l (.p 0 0 0 0), .l (.v (.int .i64 t))] fun x h k => x = sInt .i64 (stV n X.S.ss.st t) /\ k = 5 /\ h = ZBt n nw ty 3 hs X := by
 have hst := ZFO X.S n t hn
 rw [hT] at hst
 refine sE Tryz.func25 ic25_eq [.t 4] fun G hP hA => ?_
 unfold evF ic25
 conv => whnf
 refine g1 hst ?_
 exact fA
def ZKU (kind : Int) (m : Nat) (h : Nat -> Int) (slots pool budget glob loc : Int) (l : Nat) (most : Int) : Bool := decide (m <= 8) && decide (ZB4 kind m h slots pool budget glob loc = 0) && decide ((l : Int) <= most)
theorem ZJA (kind : Int) (m : Nat) (h : Nat -> Int) (start slots pool budget glob loc : Int) (l : Nat) (ev : Nat -> List Value) (most : Int) :
  ZAC Tryz.prog 23 [(0, some (.ro 1 m (numE h))), (1, some (.ro 3 l ev))] 2 [ZB5 kind 0 m start slots pool budget glob loc, .l (.s 1 3 0 l 0), .l (.v (.int .i64 most))] fun x h' k => x = ZAW (ZKU kind m h slots pool budget glob loc l most) /\ k = 2 /\ h' = [] := by
 have hR := ZLJ kind m h start slots pool budget glob loc
 refine sE Tryz.func23 ic23_eq [.t 6] fun G hP hA => ?_
 unfold evF ic23 ZKU
 by_cases h8 : m <= 8
 ·have hck := ZMq kind m h start slots pool budget glob loc (by omega)
  by_cases hc : ZB4 kind m h slots pool budget glob loc = 0
  ·rw [hc] at hck
   by_cases hl : (l : Int) <= most
   ·simp only [h8, hc, hl, decide_true, Bool.and_true]
    conv => whnf
    refine g2 hR hck ?_
    refine fB ?_
    simp [hl]
   ·simp only [h8, hc, hl, decide_true, decide_false, Bool.and_false]
    conv => whnf
    refine g2 hR hck ?_
    refine fB ?_
    simp [hl]
  ·simp only [h8, hc, decide_true, decide_false, Bool.and_false, Bool.false_and]
   conv => whnf
   refine g2 hR hck ?_
   exact fA
 ·simp only [h8, decide_false, Bool.false_and]
  conv => whnf
  refine g0 ?_
  exact fA
structure Ext (b : Nat) (X Y : MS) : Prop where
 S : Y.S = X.S
 s : Y.s = X.s
 now : Y.now = X.now
 idle : Y.idle = X.idle
 sp : Y.sp = X.sp
 le : X.i <= Y.i
 most : Y.i <= X.i + b
 old : ∀ j, j < X.i -> Y.rows j = X.rows j
 new : ∀ j, X.i <= j -> j < Y.i -> ∃ k t l, Y.rows j = rowT k t X.now l
theorem Ext.refl (X : MS) : Ext 0 X X := ⟨rfl, rfl, rfl, rfl, rfl, Nat.le_refl _, Nat.le_refl _, fun _ _ => rfl, fun j h1 h2 => absurd h2 (by omega)⟩
theorem Ext.ent (X : MS) (k t : Int) (l : Bool) : Ext 1 X (X.ent k t l) := ⟨rfl, rfl, rfl, rfl, rfl, Nat.le_succ _, Nat.le_refl _, fun j h => by simp only [MS.ent, ZCG, if_pos h],
 fun j h1 h2 => ⟨k, t, l, by simp only [MS.ent, ZCG, if_neg (show ¬ j < X.i by omega)]⟩⟩
theorem Ext.trans {a b : Nat} {X Y Z : MS} (h : Ext a X Y) (g : Ext b Y Z) : Ext (a + b) X Z := by
 refine ⟨g.S.trans h.S, g.s.trans h.s, g.now.trans h.now, g.idle.trans h.idle, g.sp.trans h.sp, Nat.le_trans h.le g.le, ?_, fun j hj => ?_, fun j h1 h2 => ?_⟩
 ·have := h.most; have := g.most; omega
 ·rw [g.old j (Nat.lt_of_lt_of_le hj h.le), h.old j hj]
 ·by_cases hj : j < Y.i
  ·obtain ⟨k, t, l, e⟩ := h.new j h1 hj
   exact ⟨k, t, l, by rw [g.old j hj, e]⟩
  ·obtain ⟨k, t, l, e⟩ := g.new j (by omega) h2
   exact ⟨k, t, l, by rw [e, h.now]⟩
theorem Ext.mono {a b : Nat} {X Y : MS} (h : Ext a X Y) (hab : a <= b) : Ext b X Y := ⟨h.S, h.s, h.now, h.idle, h.sp, h.le, Nat.le_trans h.most (by omega), h.old, h.new⟩
theorem Ext.pick {a : Nat} {X Y : MS} (b : Bool) (h : Ext a X Y) : Ext a X (pick b Y X) := by
 cases b
 ·exact (Ext.refl X).mono (Nat.zero_le _)
 ·exact h
theorem ZPm (X : MS) (d : Dd) (t : Int) : Ext 3 X (X.did d t) := by
 have h1 : Ext 1 X (pick d.q (X.ent 2 t false) X) := Ext.pick _ (Ext.ent X 2 t false)
 unfold MS.did
 generalize Go.Proofs.YtlkfolopbehikaaGreat.pick d.q (X.ent 2 t false) X = X1 at h1 ⊢
 have h2 : Ext 2 X (Go.Proofs.YtlkfolopbehikaaGreat.pick d.a (X1.ent 3 t false) X1) := h1.trans (Ext.pick _ (Ext.ent X1 3 t false))
 simp only
 generalize Go.Proofs.YtlkfolopbehikaaGreat.pick d.a (X1.ent 3 t false) X1 = X2 at h2 ⊢
 have e : ∀ k l, Ext 3 X (X2.ent k t l) := fun k l => h2.trans (Ext.ent X2 k t l)
 exact ZAn _ _ _ (e _ _) (ZAn _ _ _ (e _ _) (ZAn _ _ _ (e _ _) (ZAn _ _ _ (e _ _) (h2.mono (by omega)))))
structure After (n ty : Nat) (k : Int) (X Y : MS) : Prop where
 ok : MOk n ty Y
 le : X.i <= Y.i
 most : Y.i <= X.i + 3
 old : ∀ j, j < X.i -> Y.rows j = X.rows j
 new : ∀ j, X.i <= j -> j < Y.i -> ∃ k t l, Y.rows j = rowT k t Y.now l
 now : Y.now = X.now + if k = 2 then 1 else 0
theorem Ext.after {n ty : Nat} {X X0 Y : MS} (h : Ext 3 X0 Y) (H : MOk n ty X) (hT : X0.S.T = ty) (hv : X0.S.inv n) (h1 : X0.now = X.now) (h2 : X0.i = X.i) (h3 : X0.rows = X.rows) (hi : X.i + 3 <= 90000) {k : Int} (hk : k ≠ 2) : After n ty k X Y := by
 refine ⟨⟨by rw [h.S]; exact hT, by rw [h.S]; exact hv, by rw [h.now, h1]; exact H.now, ?_⟩, ?_, ?_, fun j hj => ?_, fun j ha hb => ?_, ?_⟩
 ·have := h.most; omega
 ·have := h.le; omega
 ·have := h.most; omega
 ·rw [h.old j (by omega), h3]
 ·rw [h.now]; exact h.new j (by omega) hb
 ·rw [h.now, h1, if_neg hk]; omega
theorem MOk.same {n ty : Nat} {X : MS} (H : MOk n ty X) {k : Int} (hk : k ≠ 2) : After n ty k X X := ⟨H, Nat.le_refl _, Nat.le_add_right _ _, fun _ _ => rfl, fun j h1 h2 => absurd h1 (Nat.not_le.2 h2), by rw [if_neg hk]; omega⟩
theorem ZNd {n nw ty : Nat} {X : MS} (k t w : Int) (H : MOk n ty X) (hi : X.i + 3 <= 90000) (hnow : X.now < 1099511627776) : After n ty k X (X.do0 n nw k t w).2 := by
 unfold MS.do0
 by_cases k1 : k = 1
 ·simp only [k1, decide_true, Go.Proofs.YtlkfolopbehikaaGreat.pick]
  unfold MS.stp
  cases hb : X.busy n t with
  | true =>
   simp only
   refine (ZPm (MS.mk (X.mid n nw t.toNat).2.1 (X.mid n nw t.toNat).2.2 X.i X.rows X.now X.idle (updF X.sp t.toNat (incZ (X.sp t.toNat)))) _ _).after (k := 1) H ?_ ?_ rfl rfl rfl hi (by omega)
   ·simp only [MS.mid]; rw [LK.T_step]; exact H.T
   ·exact LK.inv_step H.inv _ _ _ _ _
  | false =>
   simp only
   exact H.same (by omega)
 by_cases k2 : k = 2
 ·subst k2
  simp only [show ¬ (2 : Int) = 1 by omega, decide_true, decide_false, Go.Proofs.YtlkfolopbehikaaGreat.pick, MS.tck, show ¬ (1099511627776 : Int) <= X.now by omega]
  refine ⟨⟨H.T, H.inv, ?_, H.i⟩, Nat.le_refl _, by simp, fun _ _ => rfl, fun j h1 h2 => absurd h1 (Nat.not_le.2 h2), ?_⟩
  ·have := H.now; simp only; omega
  ·simp
 by_cases k3 : k = 3
 ·simp only [k3, show ¬ (3 : Int) = 1 by omega, show ¬ (3 : Int) = 2 by omega, decide_true, decide_false, Go.Proofs.YtlkfolopbehikaaGreat.pick, MS.cal]
  have e : ∀ Y : MS, Ext 3 (X.wS (X.S.lock n t (X.till w))) Y -> After n ty 3 X Y := fun Y h => h.after H (by simp only [MS.wS, LK.lock]; rw [LK.T_set]; exact H.T) (LK.inv_lock H.inv _ _) rfl rfl rfl hi (by omega)
  exact ZAn (P := fun r : Bool × MS => After n ty 3 X r.2) _ _ _ (e _ ((Ext.ent _ 1 t false).mono (by omega))) (e _ ((Ext.refl _).mono (by omega)))
 by_cases k4 : k = 4
 ·simp only [k4, show ¬ (4 : Int) = 1 by omega, show ¬ (4 : Int) = 2 by omega, show ¬ (4 : Int) = 3 by omega, decide_true, decide_false, Go.Proofs.YtlkfolopbehikaaGreat.pick, MS.fin]
  have e : ∀ Y : MS, Ext 3 (X.wS (X.S.unlock n t)) Y -> After n ty 4 X Y := fun Y h => h.after H (by simp only [MS.wS, LK.unlock]; rw [LK.T_set]; exact H.T) (LK.inv_unlock H.inv _) rfl rfl rfl hi (by omega)
  exact ZAn (P := fun r : Bool × MS => After n ty 4 X r.2) _ _ _ (e _ ((Ext.ent _ 6 t false).mono (by omega))) (e _ ((Ext.refl _).mono (by omega)))
 ·simp only [k1, k2, k3, k4, decide_false, Go.Proofs.YtlkfolopbehikaaGreat.pick]
  exact H.same k2
theorem ZLQ {n nw ty : Nat} {X : MS} (k t w : Int) (H : MOk n ty X) (hi : X.i + 3 <= 90000) (hnow : X.now < 1099511627776) : After n ty k X (X.Do n nw k t w).2 := by
 have h := ZNd (nw := nw) k t w H hi hnow
 unfold MS.Do
 rcases hr : X.do0 n nw k t w with ⟨b, Y⟩
 rw [hr] at h
 cases b
 ·exact ⟨⟨h.ok.T, h.ok.inv, h.ok.now, h.ok.i⟩, h.le, h.most, h.old, h.new, h.now⟩
 ·exact h
def evR (ek et ew : Nat -> Int) : Nat -> List Value := fun i => [.int .i64 (ek i), .int .i64 (et i), .int .i64 (ew i)]
def MS.run (n nw : Nat) (ek et ew : Nat -> Int) (X : MS) : Nat -> Int × MS
 | 0 => (0, X)
 | i + 1 => ((MS.run n nw ek et ew X i).1 + (match ((MS.run n nw ek et ew X i).2.Do n nw (ek i) (et i) (ew i)).1 with | true => 1 | false => 0), ((MS.run n nw ek et ew X i).2.Do n nw (ek i) (et i) (ew i)).2)
structure Ran (n ty k : Nat) (X Y : MS) : Prop where
 ok : MOk n ty Y
 most : Y.i <= X.i + 3 * k
 now : X.now <= Y.now /\ Y.now <= X.now + k
theorem ZGD {n nw ty : Nat} (ek et ew : Nat -> Int) {X : MS} (H : MOk n ty X) {l : Nat} (hi : X.i + 3 * l <= 90000) (hnow : X.now + l <= 1099511627776) : ∀ k, k <= l -> Ran n ty k X (MS.run n nw ek et ew X k).2 /\ 0 <= (MS.run n nw ek et ew X k).1 /\ (MS.run n nw ek et ew X k).1 <= k
 | 0, _ => ⟨⟨H, by simp [MS.run], by simp [MS.run]⟩, by simp [MS.run], by simp [MS.run]⟩
 | k + 1, hk => by
  obtain ⟨⟨h1, h2, h3⟩, h4, h5⟩ := ZGD ek et ew H hi hnow k (by omega)
  have hd := ZLQ (nw := nw) (ek k) (et k) (ew k) h1 (by omega) (by omega)
  refine ⟨⟨hd.ok, ?_, ?_⟩, ?_, ?_⟩
  ·have := hd.most
   show ((MS.run n nw ek et ew X k).2.Do n nw (ek k) (et k) (ew k)).2.i <= _
   omega
  ·have := hd.now
   show X.now <= ((MS.run n nw ek et ew X k).2.Do n nw (ek k) (et k) (ew k)).2.now /\ ((MS.run n nw ek et ew X k).2.Do n nw (ek k) (et k) (ew k)).2.now <= _
   split at this <;> omega
  ·show 0 <= (MS.run n nw ek et ew X k).1 + _
   split <;> omega
  ·show (MS.run n nw ek et ew X k).1 + _ <= _
   split <;> omega
theorem ZC6 (n nw ty : Nat) (hs : Nat -> Int) (X : MS) (ek et ew : Nat -> Int) (l : Nat) (hn : n <= 64) (hnw : nw <= 4096) (H : MOk n ty X) (hi : X.i + 3 * l <= 90000) (hnow : X.now + l <= 1099511627776) (hl : l <= 10000) :
  ZAC Tryz.prog 27 (ZBt n nw ty 3 hs X ++ [(5, some (.ro 3 l (evR ek et ew)))]) 6 [.l (.p 0 0 0 0), .l (.s 5 3 0 l 0)] fun x h k =>
   x = sInt .i64 (MS.run n nw ek et ew X l).1 /\ k = 7 /\ h = ZBt n nw ty 6 hs (MS.run n nw ek et ew X l).2 := by
 refine sE Tryz.func27 ic27_eq [.t 4] fun G hP hA => ?_
 unfold evF ic27
 conv => whnf
 refine ZAf (α := Nat) (ds := []) (N := 7) (fun i => [(10, sInt .i64 (i : Int)), (5, sInt .i64 (MS.run n nw ek et ew X i).1)]) []
  (fun i => (3, none) :: ZBt n nw ty 6 hs (MS.run n nw ek et ew X i).2)
  (fun i => i <= l) (fun i => l - i) 0 (Nat.zero_le _) ?_ fun i hi2 => ?_
 ·exact iA
 ·obtain ⟨⟨h1, h2, h3⟩, h4, h5⟩ := ZGD (nw := nw) ek et ew H hi hnow i hi2
  have hd := ZKS n nw ty hs (MS.run n nw ek et ew X i).2 (ek i) (et i) (ew i) hn hnw h1
  conv => whnf
  refine dsplit (fun hq => ?_) (fun hq => ?_)
  ·have hq' : (i : Int) < (l : Int) := hq
   rcases hD : (MS.run n nw ek et ew X i).2.Do n nw (ek i) (et i) (ew i) with ⟨b, Y⟩
   rw [hD] at hd
   cases b with
   | true =>
    have e : MS.run n nw ek et ew X (i + 1) = ((MS.run n nw ek et ew X i).1 + 1, Y) := by simp only [MS.run, hD]
    conv => whnf
    refine g1 hd ?_
    refine ⟨i + 1, by omega, by omega, ?_⟩
    simp only [e]
    exact iA
   | false =>
    have e : MS.run n nw ek et ew X (i + 1) = ((MS.run n nw ek et ew X i).1, Y) := by simp only [MS.run, hD, Int.add_zero]
    conv => whnf
    refine g1 hd ?_
    refine ⟨i + 1, by omega, by omega, ?_⟩
    simp only [e]
    exact iA
  ·have hq' : ¬ (i : Int) < (l : Int) := hq
   obtain rfl : i = l := by omega
   conv => whnf
   exact fA
theorem ZH2 (nw : Nat) (ws hs : Nat -> Int) (hn : nw <= 4096) : ZAC Tryz.prog 26 [(0, some (memP nw ws hs))] 1 [.l (.p 0 0 0 0)] fun x h k =>
  x = .o (.l (.s 3 1 0 nw 0)) /\ k = 4 /\ h = [(0, some (memP nw ws hs)), (3, some (.ar 1 nw (ZCL ws)))] := by
 refine sG (ZAZ (memH nw ws hs) 3 0 (by omega)) Tryz.func26 ic26_eq [.t 2] fun G hP hA => ?_
 unfold evF ic26
 conv => whnf
 refine g0 ?_
 refine ZAf (α := Nat) (ds := []) (N := 4) (fun i => [(13, sInt .i64 (i : Int))]) [] (fun i => [(3, some (.ar 1 nw (ZCL (cutF ws i))))]) (fun i => i <= nw) (fun i => nw - i) 0 (Nat.zero_le _) ?_ fun i hi => ?_
 ·conv => whnf
  refine ZAR hA [0, 1, 2, 3] rfl rfl rfl ZAj ?_ rfl
  exact ZAA
 conv => whnf
 refine dsplit (fun hq => ?_) (fun hq => ?_)
 ·have hq' : (i : Int) < (nw : Int) := hq
  have hl := ZHQ nw i ws (by omega)
  conv => whnf
  refine g1 hl ?_
  refine ⟨i + 1, by omega, by omega, ?_⟩
  refine iQ ?_
  exact ⟨⟨rfl, rfl, fun j hj => by simp only [updE, ZLS]⟩, ZAA⟩
 ·have hq' : ¬ (i : Int) < (nw : Int) := hq
  obtain rfl : i = nw := by omega
  conv => whnf
  (refine ZAB (H := (memH i ws hs)) (np := 3) 0 0 (Nat.le_of_ble_eq_true rfl) ?_; conv => whnf); (refine zK ?_)
  refine fQ ?_ ?_
  ·rfl
  ·exact ⟨ZAA, ⟨rfl, rfl, fun j hj => by simp only [ZCL, cutF, if_pos hj]⟩, trivial⟩

theorem ZE4 (m : Nat) (h : Nat -> Int) (start : Nat) (slots pool budget glob loc : Int) (h2 : 1 <= m /\ m <= 64) (hb : anyZ badH h m = false)  :
  ZAC Tryz.prog 16 [(0, some (.ro 1 m (numE h)))] 1 [ZB5 1 0 m start slots pool budget glob loc] fun x h' kk => x = .t [.l (.p 3 0 0 0), .l (.v (.int .i64 0))] /\ kk = 5 /\
   h' = [(1, some (.ob [2] (ZAl (ZBz m 0 1 (fun _ => 0) (fun _ => -1) (fun _ => 0) fun _ => false) 5))), (2, some (ZBb m (2) (cutF (ZGQ (fun _ => 0) 0 start) (2)) (ZEM (fun _ => 0) 0 h) (fun _ => 0) (fun _ => 0) (fun _ => 0) fun _ => 0)), (3, some (.st (ZJe 221 2 1 4 m))), (4, some (.ar 1 m (numE fun _ => 0)))] := by
 have hbn := ZJI h m start slots pool budget glob loc h2 hb
 have hsl := ZBd m (fun _ => 0) (fun _ => -1) false true
 refine sE Tryz.func16 ic16_eq [.t 2, .t 3] fun G hP hA => ?_
 unfold evF ic16
 conv => whnf
 refine cA (hbn) ?_
 refine ZAU (ZAY 2 rfl (by decide) rfl rfl rfl) ?_
 refine ZAX hP ZKn rfl rfl ?_
 conv => whnf
 refine cA (hsl) ?_
 refine zP ?_
 (refine ZAB (H := (ZBz m 0 1 (fun _ => 0) (fun _ => -1) (fun _ => 0) fun _ => false)) (np := 5) 2 1 (Nat.le_of_ble_eq_true rfl) ?_; conv => whnf); (refine zK ?_)
 exact fA
theorem ZII (m : Nat) (h : Nat -> Int) (start slots : Nat) (pool budget glob loc : Int) (h2 : 1 <= m /\ m <= 64) (hb : anyZ badH h m = false) (hu : start < 4294967296) (hn : ZCa slots) (hmn : m <= slots) :
  ZAC Tryz.prog 16 [(0, some (.ro 1 m (numE h)))] 1 [ZB5 2 0 m start slots pool budget glob loc] fun x h' kk => x = .t [.l (.p 3 0 0 0), .l (.v (.int .i64 0))] /\ kk = 5 /\
   h' = [(1, some (.ob [2] (ZAl (ZBP m 0 slots (fun _ => 0) (fun _ => -1) (fun _ => 0) (fun _ => 0)) 4))), (2, some (ZBb m (1 + slots) (cutF (ZGT (fun _ => 0) 0 start slots) (1 + slots)) (ZDc (fun _ => 0) 0 h m slots) (fun _ => 0) (fun _ => 0) (fun _ => 0) fun _ => 0)), (3, some (.st (ZJe 224 2 1 4 m))), (4, some (.ar 1 m (numE fun _ => 0)))] := by
 have hbn := ZJS h m start slots pool budget glob loc h2 hu hn hmn hb
 have hsl := ZBd m (fun _ => 0) (fun _ => -1) false false
 refine sE Tryz.func16 ic16_eq [.t 2, .t 3] fun G hP hA => ?_
 unfold evF ic16
 conv => whnf
 refine cA (hbn) ?_
 refine ZAU (ZAY 2 rfl (by decide) rfl rfl rfl) ?_
 refine ZAX hP ZJZ rfl rfl ?_
 conv => whnf
 refine cA (hsl) ?_
 refine zP ?_
 (refine ZAB (H := (ZBP m 0 slots (fun _ => 0) (fun _ => -1) (fun _ => 0) (fun _ => 0))) (np := 4) 2 1 (Nat.le_of_ble_eq_true rfl) ?_; conv => whnf); (refine zK ?_)
 exact fA
theorem ZIJ (m : Nat) (h : Nat -> Int) (start : Nat) (slots pool budget glob loc : Int) (h2 : 1 <= m /\ m <= 64) (hb : anyZ badH h m = false)  :
  ZAC Tryz.prog 16 [(0, some (.ro 1 m (numE h)))] 1 [ZB5 3 0 m start slots pool budget glob loc] fun x h' kk => x = .t [.l (.p 3 0 0 0), .l (.v (.int .i64 0))] /\ kk = 5 /\
   h' = [(1, some (.ob [2] (ZAl (ZDS m 0 (fun _ => 0) (fun _ => -1) (fun i => i + 1) (fun _ => 0) (fun _ => 0)) 4))), (2, some (ZBb m (2 + m) (cutF (ZJC (fun _ => 0) 0 m) (2 + m)) (ZH5 (fun _ => 0) 0 h m) (fun _ => 0) (fun _ => 0) (fun _ => 0) fun _ => 0)), (3, some (.st (ZJe 227 2 1 4 m))), (4, some (.ar 1 m (numE fun _ => 0)))] := by
 have hbn := ZJE h m start slots pool budget glob loc h2 hb
 have hsl := ZBd m (fun _ => 0) (fun _ => -1) false true
 refine sE Tryz.func16 ic16_eq [.t 2, .t 3] fun G hP hA => ?_
 unfold evF ic16
 conv => whnf
 refine cA (hbn) ?_
 refine ZAU (ZAY 2 rfl (by decide) rfl rfl rfl) ?_
 refine ZAX hP ZML rfl rfl ?_
 conv => whnf
 refine cA (hsl) ?_
 refine zP ?_
 (refine ZAB (H := (ZDS m 0 (fun _ => 0) (fun _ => -1) (fun i => i + 1) (fun _ => 0) (fun _ => 0))) (np := 4) 2 1 (Nat.le_of_ble_eq_true rfl) ?_; conv => whnf); (refine zK ?_)
 exact fA
theorem ZIK (m : Nat) (h : Nat -> Int) (start : Nat) (slots pool budget glob loc : Int) (h2 : 1 <= m /\ m <= 64) (hb : anyZ badH h m = false)  :
  ZAC Tryz.prog 16 [(0, some (.ro 1 m (numE h)))] 1 [ZB5 4 0 m start slots pool budget glob loc] fun x h' kk => x = .t [.l (.p 3 0 0 0), .l (.v (.int .i64 0))] /\ kk = 5 /\
   h' = [(1, some (.ob [2] (ZAl (ZDT m 0 (fun _ => 0) (fun _ => -1) (fun _ => 0) (fun _ => 0)) 4))), (2, some (ZBb m (1 + 2 * m) (cutF (ZJF (fun _ => 0) 0 m) (1 + 2 * m)) (ZH6 (fun _ => 0) 0 h m) (fun _ => 0) (fun _ => 0) (fun _ => 0) fun _ => 0)), (3, some (.st (ZJe 230 2 1 4 m))), (4, some (.ar 1 m (numE fun _ => 0)))] := by
 have hbn := ZJJ h m start slots pool budget glob loc h2 hb
 have hsl := ZBd m (fun _ => 0) (fun _ => -1) false true
 refine sE Tryz.func16 ic16_eq [.t 2, .t 3] fun G hP hA => ?_
 unfold evF ic16
 conv => whnf
 refine cA (hbn) ?_
 refine ZAU (ZAY 2 rfl (by decide) rfl rfl rfl) ?_
 refine ZAX hP ZMM rfl rfl ?_
 conv => whnf
 refine cA (hsl) ?_
 refine zP ?_
 (refine ZAB (H := (ZDT m 0 (fun _ => 0) (fun _ => -1) (fun _ => 0) (fun _ => 0))) (np := 4) 2 1 (Nat.le_of_ble_eq_true rfl) ?_; conv => whnf); (refine zK ?_)
 exact fA
theorem ZIL (m : Nat) (h : Nat -> Int) (start : Nat) (slots : Int) (pool : Nat) (budget glob loc : Int) (h2 : 1 <= m /\ m <= 64) (hb : anyZ badH h m = false) (hp : 1 <= pool /\ pool <= 8) :
  ZAC Tryz.prog 16 [(0, some (.ro 1 m (numE h)))] 1 [ZB5 5 0 m start slots pool budget glob loc] fun x h' kk => x = .t [.l (.p 3 0 0 0), .l (.v (.int .i64 0))] /\ kk = 5 /\
   h' = [(1, some (.ob [2] (ZAl (ZEc m pool 0 (fun _ => 0) (fun _ => -1) (fun _ => 0) (fun _ => 0) (fun _ => 0) (fun _ => 0)) 5))), (2, some (ZBb m (1 + 3 * pool * m) (cutF (ZDs (fun _ => 0) 0 pool m) (1 + 3 * pool * m)) (ZDd (fun _ => 0) 0 pool h m) (fun _ => 0) (fun _ => 0) (fun _ => 0) fun _ => 0)), (3, some (.st (ZJe 233 2 1 4 m))), (4, some (.ar 1 m (numE fun _ => 0)))] := by
 have hbn := ZJV h m pool start slots budget glob loc h2 hp hb
 have hsl := ZBd m (fun _ => 0) (fun _ => -1) true false
 refine sE Tryz.func16 ic16_eq [.t 2, .t 3] fun G hP hA => ?_
 unfold evF ic16
 conv => whnf
 refine cA (hbn) ?_
 refine ZAU (ZAY 2 rfl (by decide) rfl rfl rfl) ?_
 refine ZAX hP ZJa rfl rfl ?_
 conv => whnf
 refine cA (hsl) ?_
 refine zP ?_
 (refine ZAB (H := (ZEc m pool 0 (fun _ => 0) (fun _ => -1) (fun _ => 0) (fun _ => 0) (fun _ => 0) (fun _ => 0))) (np := 5) 2 1 (Nat.le_of_ble_eq_true rfl) ?_; conv => whnf); (refine zK ?_)
 exact fA
theorem ZIM (m : Nat) (h : Nat -> Int) (start : Nat) (slots pool budget glob loc : Int) (h2 : 1 <= m /\ m <= 64) (hb : anyZ badH h m = false)  :
  ZAC Tryz.prog 16 [(0, some (.ro 1 m (numE h)))] 1 [ZB5 6 0 m start slots pool budget glob loc] fun x h' kk => x = .t [.l (.p 3 0 0 0), .l (.v (.int .i64 0))] /\ kk = 5 /\
   h' = [(1, some (.ob [2] (ZAl (ZB8 m 0 (fun _ => 0) (fun _ => -1) h (fun i => i + 1) (fun _ => 0) (fun _ => 0) (fun _ => 0) (fun _ => 0)) 4))), (2, some (ZBb m (10 + m) (cutF (ZJM (fun _ => 0) 0 m) (10 + m)) (ZHO (fun _ => 0) 0 h m) (fun _ => 0) (fun _ => 0) (fun _ => 0) fun _ => 0)), (3, some (.st (ZJe 236 2 1 4 m))), (4, some (.ar 1 m (numE fun _ => 0)))] := by
 have hbn := ZJO h m start slots pool budget glob loc h2 hb
 have hsl := ZBd m (fun _ => 0) (fun _ => -1) false false
 refine sE Tryz.func16 ic16_eq [.t 2, .t 3] fun G hP hA => ?_
 unfold evF ic16
 conv => whnf
 refine cA (hbn) ?_
 refine ZAU (ZAY 2 rfl (by decide) rfl rfl rfl) ?_
 refine ZAX hP ZKo rfl rfl ?_
 conv => whnf
 refine cA (hsl) ?_
 refine zP ?_
 (refine ZAB (H := (ZB8 m 0 (fun _ => 0) (fun _ => -1) h (fun i => i + 1) (fun _ => 0) (fun _ => 0) (fun _ => 0) (fun _ => 0))) (np := 4) 2 1 (Nat.le_of_ble_eq_true rfl) ?_; conv => whnf); (refine zK ?_)
 exact fA
theorem ZIN (m : Nat) (h : Nat -> Int) (start : Nat) (slots pool budget : Int) (glob loc : Nat) (h2 : 1 <= m /\ m <= 64) (hb : anyZ badH h m = false) (hg : glob = 1 \/ glob = 4) (hl : isIn loc) (hbu : 1 <= budget /\ budget <= 1000) :
  ZAC Tryz.prog 16 [(0, some (.ro 1 m (numE h)))] 1 [ZB5 7 0 m start slots pool budget glob loc] fun x h' kk => x = .t [.l (.p 3 0 0 0), .l (.v (.int .i64 0))] /\ kk = 5 /\
   h' = [(1, some (.ob [2] (ZAl (ZKl m 0 glob loc budget (cnt h m) (p0F 0 glob (fun _ => 0) (fun _ => 0)) (ZCb h m)) 13))), (2, some (ZBb m (cohN m glob loc h) (cutF (ZNr m glob loc h) (cohN m glob loc h)) (ZNq m glob loc h) (fun _ => 0) (fun _ => 0) (fun _ => 0) fun _ => 0)), (3, some (.st (ZJe 239 2 1 4 m))), (4, some (.ar 1 m (numE fun _ => 0)))] := by
 have hbn := ZJY h m glob loc start slots pool budget h2 hb hg hl hbu
 have hsl := ZBd m (fun _ => 0) (fun _ => -1) false false
 refine sE Tryz.func16 ic16_eq [.t 2, .t 3] fun G hP hA => ?_
 unfold evF ic16
 conv => whnf
 refine cA (hbn) ?_
 refine ZAU (ZAY 2 rfl (by decide) rfl rfl rfl) ?_
 refine ZAX hP ZIF rfl rfl ?_
 conv => whnf
 refine cA (hsl) ?_
 refine zP ?_
 refine ZA7 (ZCS [2, 3, 4, 5, 6, 7, 8, 9, 10, 11, 12, 13, 14] (H := (ZKl m 0 glob loc budget (cnt h m) (p0F 0 glob (fun _ => 0) (fun _ => 0)) (ZCb h m))) (np := 13) 1 rfl (by decide) rfl rfl ?_ rfl) (Nat.le_of_ble_eq_true rfl) ?_
 ·exact ZAA
 conv => whnf
 exact fA
theorem ZHI {H H' : Heap} {np : Nat} (h1 : ZBJ id H H') (h2 : ∀ k e, hget H k = some e -> ∃ e', hget H' k = some e') {ls : List Go.Sx.Loc} {l : Go.Sx.Loc} {F : List Nat} {w : World} (h : ZAl H np ls l F w) : ZAl H' np ls l F w := by
 obtain ⟨ρ, φ, a1, a2, a3, a4⟩ := h
 have get : ∀ k e, hget H' k = some e -> ∃ e', hget H k = some e' /\ ZCU id e' e := fun k e hk => h1.get (ZAg hk)
 refine ⟨ρ, φ, a1, a2, ⟨fun k e hk => ?_, fun k e hk => ?_, fun k k' e e' hk hk' hne ho => ?_, fun k e hk => ?_⟩, fun b => ⟨fun hb => ?_, fun ⟨k, e, hk, hb⟩ => ?_⟩⟩
 ·obtain ⟨e', q1, q2⟩ := get k e hk
  exact q2.at_ (fun _ h => h) (a3.at_ k e' q1)
 ·obtain ⟨e', q1, _⟩ := get k e hk; exact a3.lt k e' q1
 ·obtain ⟨e1, q1, q2⟩ := get k e hk
  obtain ⟨e2, q3, _⟩ := get k' e' hk'
  exact a3.dj k k' e1 e2 q1 q3 hne (q2.own ho)
 ·obtain ⟨e', q1, _⟩ := get k e hk; exact a3.sz k e' q1
 ·obtain ⟨k, e, hk, hbk⟩ := (a4 b).1 hb
  obtain ⟨e', q1⟩ := h2 k e hk
  exact ⟨k, e', q1, hbk⟩
 ·obtain ⟨e', q1, _⟩ := get k e hk
  exact (a4 b).2 ⟨k, e', q1, hb⟩
def in1 (kd M : Nat) : K1 := match kd with
 | 1 => .fl M (M + 1) ⟨⟨fun _ => 0, fun _ => -1⟩, fun _ => 0, fun _ => false⟩
 | 3 => .cl M ⟨⟨fun _ => 0, fun _ => -1⟩, fun i => i + 1, fun _ => 0, fun _ => 0⟩
 | _ => .mc M ⟨⟨fun _ => 0, fun _ => -1⟩, fun _ => 0, fun _ => 0⟩
theorem ZQq {kd : Nat} (hk : isIn kd) (n M : Nat) : (in1 kd M).R n = inR1 kd n M := by rcases hk with rfl | rfl | rfl <;> rfl
theorem ZQr {kd : Nat} (hk : isIn kd) (M : Nat) : (in1 kd M).T = inT kd := by rcases hk with rfl | rfl | rfl <;> rfl
theorem ZNb {kd : Nat} (hk : isIn kd) (n M : Nat) (hM : M <= 4096) : (in1 kd M).inv n := by
 rcases hk with rfl | rfl | rfl
 ·exact ⟨trivial, trivial⟩
 ·exact ⟨⟨by omega, by omega⟩, trivial⟩
 ·exact ⟨trivial, trivial⟩
structure MNew (m : Nat) (h : Nat -> Int) (c : AV) (S : LK) (nw : Nat) (hs : Nat -> Int) (s : PS) : Prop where
 spec : ZAC Tryz.prog 16 [(0, some (.ro 1 m (numE h)))] 1 [c] fun x h' kk => x = .t [.l (.p 3 0 0 0), .l (.v (.int .i64 0))] /\ kk = 5 /\
  h' = [(1, some (.ob [2] (S.R m))), (2, some (ZBK m nw hs s)), (3, some (.st (ZJe S.T 2 1 4 m))), (4, some (.ar 1 m (numE fun _ => 0)))]
 inv : S.inv m
 nw : nw <= 4096
 ss : S.ss = ⟨fun _ => 0, fun _ => -1⟩
def ps0 (ws : Nat -> Int) : PS := ⟨ws, fun _ => 0, fun _ => 0, fun _ => 0, fun _ => 0⟩
theorem ZNc (h : Nat -> Int) (c : Nat) : ∀ (i t : Nat), t < i -> h t = (c : Int) -> 0 < cnt h i c
 | i + 1, t, ht, hc => by
  simp only [cnt]
  by_cases e : t = i
  ·subst e; rw [if_pos hc]; omega
  ·have := ZNc h c i t (by omega) hc
   omega
theorem ZEy {h : Nat -> Int} : ∀ {m : Nat}, anyZ badH h m = false -> ∀ t, t < m -> 0 <= h t /\ h t < 8
 | m + 1, hb, t, ht => by
  simp only [anyZ, Bool.or_eq_false_iff] at hb
  by_cases e : t = m
  ·subst e
   have := hb.2
   simp only [badH, Bool.or_eq_false_iff, decide_eq_false_iff_not] at this
   omega
  ·exact ZEy hb.1 t (by omega)
def coK (m g l : Nat) (budget : Int) (h : Nat -> Int) : CK := ⟨0, budget, cnt h m, fun t => (h t).toNat, fun t => (cnt h t (h t).toNat : Int), inT g, inT l⟩
def coL (m g l : Nat) (h : Nat -> Int) : CO := ⟨⟨fun _ => 0, fun _ => -1⟩, fun _ => 0, fun _ => 0, in1 g 8, fun c => in1 l (l3 l (cnt h m) (p0F 0 g (fun _ => 0) (fun _ => 0)) c).1⟩
theorem ZQs {m g l : Nat} {budget : Int} {h : Nat -> Int} (hg : isIn g) (hl : isIn l) (hb : anyZ badH h m = false) {ls : List Go.Sx.Loc} {lc : Go.Sx.Loc} {F : List Nat} {w : World}
  (hp : ZAl (ZKl m 0 g l budget (cnt h m) (p0F 0 g (fun _ => 0) (fun _ => 0)) (ZCb h m)) 13 ls lc F w) : (LK.c (coK m g l budget h) (coL m g l h)).R m ls lc F w := by
 have e : ∀ c, (in1 l (l3 l (cnt h m) (p0F 0 g (fun _ => 0) (fun _ => 0)) c).1).R (cnt h m c) = inR1 l (cnt h m c) (l3 l (cnt h m) (p0F 0 g (fun _ => 0) (fun _ => 0)) c).1 := fun c => ZQq hl _ _
 have eg : (in1 g 8).R 8 = inR1 g 8 8 := ZQq hg _ _
 have ob : ∀ c, ZCU id (.ob [1] (OptR (lb (cnt h m) 8 c) (inR1 l (cnt h m c) (l3 l (cnt h m) (p0F 0 g (fun _ => 0) (fun _ => 0)) c).1))) (.ob [1] (OptR (lb (cnt h m) 8 c) ((in1 l (l3 l (cnt h m) (p0F 0 g (fun _ => 0) (fun _ => 0)) c).1).R (cnt h m c)))) := fun c => by rw [e c]; exact ⟨rfl, .inl rfl⟩
 refine ZHI ?_ ?_ hp
 ·refine ⟨rfl, ⟨rfl, .inl rfl⟩, ?_, ⟨rfl, rfl, fun i hi => ?_⟩, ob 0, ob 1, ob 2, ob 3, ob 4, ob 5, ob 6, ob 7, trivial⟩
  ·show ZCU id (.ob [1] (inR1 g 8 (0 + 8))) (.ob [1] ((in1 g 8).R 8))
   rw [eg]; exact ⟨rfl, .inl rfl⟩
  ·have h0 := (ZEy hb i hi).1
   show ZCb h m i = plE (fun t => (h t).toNat) (fun t => (cnt h t (h t).toNat : Int)) (fun _ => 0) (fun _ => 0) i
   simp only [ZCb, ZLX, plE, tdV, if_pos hi]
   rw [show ((h i).toNat : Int) = h i from by omega]
 ·intro k e hk
  have h1 := ZAg hk
  simp only [ZKl, List.mem_cons, Prod.mk.injEq, List.not_mem_nil, or_false] at h1
  rcases h1 with ⟨rfl, _⟩ | ⟨rfl, _⟩ | ⟨rfl, _⟩ | ⟨rfl, _⟩ | ⟨rfl, _⟩ | ⟨rfl, _⟩ | ⟨rfl, _⟩ | ⟨rfl, _⟩ | ⟨rfl, _⟩ | ⟨rfl, _⟩ | ⟨rfl, _⟩ | ⟨rfl, _⟩ <;> exact ⟨_, rfl⟩
theorem ZQt {m E : Nat} {tail : Int} {st dl sp tr no ot : Nat -> Int} (hm : 1 <= m) {ls : List Go.Sx.Loc} {lc : Go.Sx.Loc} {F : List Nat} {w : World} (hp : ZAl (ZEc m E tail st dl sp tr no ot) 5 ls lc F w) : ZAl (ZBs m E tail st dl sp tr no ot) 5 ls lc F w := by
 refine ZHI ?_ ?_ hp
 ·exact ⟨rfl, ZAA, ⟨rfl, .inr ⟨fun ls => ZEs _ _ _, fun ls l F w hh => ZNK hm hh⟩⟩, ZAA, trivial⟩
 ·intro k e hk
  have h1 := ZAg hk
  simp only [ZEc, List.mem_cons, Prod.mk.injEq, List.not_mem_nil, or_false] at h1
  rcases h1 with ⟨rfl, _⟩ | ⟨rfl, _⟩ | ⟨rfl, _⟩ | ⟨rfl, _⟩ <;> exact ⟨_, rfl⟩
theorem ZPl {m g l : Nat} {budget : Int} {h : Nat -> Int} (hm : m <= 64) (hg : isIn g) (hl : isIn l) (hb : anyZ badH h m = false) : ZCs (coK m g l budget h) m (coL m g l h) := by
 have hp : (p0F 0 g (fun _ => 0) (fun _ => 0)).1 <= 26 := by
  have := ZLW g 8
  show 0 + 8 + inN g 8 <= 26
  omega
 refine ⟨⟨Nat.zero_le _, fun t ht => ⟨?_, ?_, ?_⟩⟩, ⟨ZNb hg _ _ (by omega), ZQr hg _⟩, fun t ht => ⟨ZNb hl _ _ ?_, ZQr hl _⟩, fun t ht => .inl rfl⟩
 ·have := ZEy hb t ht
  show (h t).toNat < 8
  omega
 ·have h1 := ZEy hb t ht
  have h2 := ZNc h (h t).toNat m t ht (by omega)
  show lb (cnt h m) 8 (h t).toNat = true
  simp only [lb, Bool.and_eq_true]
  exact ⟨by rw [Nat.blt_eq]; omega, by rw [Nat.blt_eq]; exact h2⟩
 ·exact Nat.le_trans (ZHP h m _) hm
 ·have h1 := ZEy hb t ht
  have h2 := ZGU (l := l) (p0 := p0F 0 g (fun _ => 0) fun _ => 0) (cn := cnt h m) (fun j => Nat.le_trans (ZHP h m j) hm) (h t).toNat
  show (l3 l (cnt h m) (p0F 0 g (fun _ => 0) (fun _ => 0)) (h t).toNat).1 <= 4096
  omega
theorem ZKQ {kind : Int} {m : Nat} {h : Nat -> Int} {start : Nat} {slots pool budget glob loc : Int} (hc : ZB4 kind m h slots pool budget glob loc = 0) (hst : start < 4294967296) :
  ∃ S nw hs s, MNew m h (ZB5 kind 0 m start slots pool budget glob loc) S nw hs s := by
 obtain ⟨h1, h2, hb, h3, h5, h7⟩ := ZKB hc
 rcases (show kind = 1 \/ kind = 2 \/ kind = 3 \/ kind = 4 \/ kind = 5 \/ kind = 6 \/ kind = 7 by omega) with rfl | rfl | rfl | rfl | rfl | rfl | rfl
 ·exact ⟨.s (.fl 0 1 ⟨⟨fun _ => 0, fun _ => -1⟩, fun _ => 0, fun _ => false⟩), _, _, ps0 _, ZE4 m h start slots pool budget glob loc h2 hb, ⟨trivial, trivial⟩, by omega, rfl⟩
 ·obtain ⟨hs1, hs2⟩ := h3 rfl
  obtain ⟨n, rfl, hn⟩ := ZPN hs1
  exact ⟨.s (.sl 0 n ⟨⟨fun _ => 0, fun _ => -1⟩, fun _ => 0, fun _ => 0⟩), _, _, ps0 _, ZII m h start n pool budget glob loc h2 hb hst hn (by omega), ⟨⟨hn, by omega, by omega⟩, trivial⟩, by unfold ZCa at hn; omega, rfl⟩
 ·exact ⟨.s (.cl 0 ⟨⟨fun _ => 0, fun _ => -1⟩, fun i => i + 1, fun _ => 0, fun _ => 0⟩), _, _, ps0 _, ZIJ m h start slots pool budget glob loc h2 hb, ⟨⟨by omega, by omega⟩, trivial⟩, by omega, rfl⟩
 ·exact ⟨.s (.mc 0 ⟨⟨fun _ => 0, fun _ => -1⟩, fun _ => 0, fun _ => 0⟩), _, _, ps0 _, ZIK m h start slots pool budget glob loc h2 hb, ⟨trivial, trivial⟩, by omega, rfl⟩
 ·have h5 := h5 rfl
  obtain ⟨n, rfl⟩ : ∃ n : Nat, pool = n := ⟨pool.toNat, by omega⟩
  have hn8 : n * m <= 8 * 64 := Nat.mul_le_mul (by omega) h2.2
  have hn9 : 3 * n * m = 3 * (n * m) := by rw [Nat.mul_assoc]
  refine ⟨.s (.ab n 0 ⟨⟨fun _ => 0, fun _ => -1⟩, fun _ => 0, fun _ => 0, fun _ => 0, fun _ => 0⟩), 1 + 3 * n * m, ZDd (fun _ => 0) 0 n h m, ps0 (cutF (ZDs (fun _ => 0) 0 n m) (1 + 3 * n * m)), ?_, ⟨⟨by omega, fun t ht a b => by simp at a⟩, by omega, fun t ht => ⟨by simp, fun _ => rfl⟩⟩, ?_, rfl⟩
  ·refine ZAC.refin (ZIL m h start slots n budget glob loc h2 hb (by omega)) ?_
   rintro x h' k ⟨rfl, rfl, rfl⟩ _
   conv => whnf
   refine fQ ?_ ?_
   ·rfl
   ·exact ⟨⟨rfl, .inr ⟨fun ls => LK.stable _ _ ls, fun ls l F w hh => ZQt h2.1 hh⟩⟩, ZAA, ZAA, ZAA, trivial⟩
  ·rw [hn9]; omega
 ·exact ⟨.s (.hi 0 ⟨⟨fun _ => 0, fun _ => -1⟩, h, fun i => i + 1, fun _ => 0, fun _ => 0, fun _ => 0, fun _ => 0⟩), _, _, ps0 _, ZIM m h start slots pool budget glob loc h2 hb, ⟨⟨by omega, by omega⟩, trivial⟩, by omega, rfl⟩
 ·obtain ⟨hg, hl, hbu⟩ := h7 rfl
  obtain ⟨g, rfl⟩ : ∃ g : Nat, glob = g := ⟨glob.toNat, by omega⟩
  obtain ⟨l, rfl⟩ : ∃ l : Nat, loc = l := ⟨loc.toNat, by omega⟩
  have hgi : isIn g := by unfold isIn; omega
  have hli : isIn l := by unfold isIn; omega
  refine ⟨.c (coK m g l budget h) (coL m g l h), cohN m g l h, ZNq m g l h, ps0 (cutF (ZNr m g l h) (cohN m g l h)), ?_, ZPl h2.2 hgi hli hb, ?_, rfl⟩
  ·refine ZAC.refin (ZIN m h start slots pool budget g l h2 hb (by omega) hli hbu) ?_
   rintro x h' k ⟨rfl, rfl, rfl⟩ _
   conv => whnf
   refine fQ ?_ ?_
   ·rfl
   ·exact ⟨⟨rfl, .inr ⟨fun ls => LK.stable _ _ ls, fun ls l F w hh => ZQs hgi hli hb hh⟩⟩, ZAA, ZAA, ZAA, trivial⟩
  ·exact Nat.le_trans (ZNs m g l h h2.2) (by decide)
def ekA : Nat -> Int := fun i => match i with | 0 => 3 | _ => 1
def etA : Nat -> Int := fun _ => 0
def ewA : Nat -> Int := fun i => match i with | 0 => -1 | _ => 0
def x0A : MS := ⟨.s (.fl 0 1 ⟨⟨fun _ => 0, fun _ => -1⟩, fun _ => 0, fun _ => false⟩), ⟨cutF (ZGQ (fun _ => 0) 0 (0 : Nat)) 2, fun _ => 0, fun _ => 0, fun _ => 0, fun _ => 0⟩, 0, fun _ => [], 0, 0, fun _ => 0⟩
theorem x3A : (MS.run 1 2 ekA etA ewA x0A 3).1 = 3 /\ (MS.run 1 2 ekA etA ewA x0A 3).2.i = 3 /\ (MS.run 1 2 ekA etA ewA x0A 3).2.S.T = 221 /\ stV 1 (MS.run 1 2 ekA etA ewA x0A 3).2.S.ss.st 0 = 2 /\ (MS.run 1 2 ekA etA ewA x0A 3).2.rows 0 = rowT 1 0 0 false /\ (MS.run 1 2 ekA etA ewA x0A 3).2.rows 1 = rowT 2 0 0 false /\ (MS.run 1 2 ekA etA ewA x0A 3).2.rows 2 = rowT 4 0 0 false := by
 refine ⟨by kernel_rfl, by kernel_rfl, by kernel_rfl, by kernel_rfl, by kernel_rfl, by kernel_rfl, by kernel_rfl⟩
theorem ZGE : ZAC Tryz.prog 15 [] 0 [] fun x h n => x = ZAW true /\ n = 0 /\ h = [] := by
 have hmn := ZE4 1 (fun _ => 0) 0 0 0 0 0 0 (by omega) rfl
 have hok : MOk 1 221 x0A := ⟨rfl, ⟨trivial, trivial⟩, by simp [x0A], by simp [x0A]⟩
 have hrun := ZC6 1 2 221 (ZEM (fun _ => 0) 0 (fun _ => 0)) x0A ekA etA ewA 3 (by omega) (by omega) hok (by simp [x0A]) (by simp [x0A]) (by omega)
 obtain ⟨a1, a2, a3, a4, a5, a6, a7⟩ := x3A
 generalize MS.run 1 2 ekA etA ewA x0A 3 = r at hrun a1 a2 a3 a4 a5 a6 a7
 obtain ⟨n3, X3⟩ := r
 simp only at a1 a2 a3 a4 a5 a6 a7 hrun
 subst a1
 have htr := ZEK 1 2 221 (ZEM (fun _ => 0) 0 (fun _ => 0)) X3 (by omega)
 have hst := ZG3 1 2 221 (ZEM (fun _ => 0) 0 (fun _ => 0)) X3 0 (by omega) a3
 rw [a4] at hst
 have b5 : X3.rows (nadd 0 (Int.toNat 0)) = rowT 1 0 0 false := a5
 have b6 : X3.rows (nadd 0 (Int.toNat 1)) = rowT 2 0 0 false := a6
 have b7 : X3.rows (nadd 0 (Int.toNat 2)) = rowT 4 0 0 false := a7
 refine sE Tryz.func15 ic15_eq [.t 0] fun G hP hA => ?_
 unfold evF ic15
 conv => whnf
 refine cA (hmn) ?_
 refine ZEk (v := [_, _]) (ZAQ.nilc 3 2 4 (fun _ => []) rfl rfl) ?_
 refine cQ (hrun) ?_ ?_
 ·refine ⟨ZAA, ZAA, ZAA, ZAA, ZAA, ⟨rfl, Nat.le_refl 3, fun j hj => ?_⟩, trivial⟩
  rcases (show j = 0 \/ j = 1 \/ j = 2 by omega) with rfl | rfl | rfl <;> rfl
 conv => whnf
 refine gr2 (And.intro b5 (And.intro b6 b7)) htr hst ?_
 exact fA
def ms0 (S : LK) (s : PS) : MS := ⟨S, s, 0, fun _ => [], 0, 0, fun _ => 0⟩
theorem ZQu {m : Nat} {h : Nat -> Int} {c : AV} {S : LK} {nw : Nat} {hs : Nat -> Int} {s : PS} (N : MNew m h c S nw hs s) : MOk m S.T (ms0 S s) := ⟨rfl, N.inv, by simp [ms0], by simp [ms0]⟩
theorem ZNg (n nw : Nat) (ek et ew : Nat -> Int) (X : MS) (k : Nat) : ∀ j, (MS.run n nw (fun i => ek (k + i)) (fun i => et (k + i)) (fun i => ew (k + i)) (MS.run n nw ek et ew X k).2 j).2 = (MS.run n nw ek et ew X (k + j)).2 /\
  (MS.run n nw ek et ew X k).1 + (MS.run n nw (fun i => ek (k + i)) (fun i => et (k + i)) (fun i => ew (k + i)) (MS.run n nw ek et ew X k).2 j).1 = (MS.run n nw ek et ew X (k + j)).1
 | 0 => ⟨rfl, by simp [MS.run]⟩
 | j + 1 => by
  obtain ⟨h1, h2⟩ := ZNg n nw ek et ew X k j
  rw [<- Nat.add_assoc]
  simp only [MS.run]
  rw [h1]
  refine ⟨rfl, ?_⟩
  rw [<- h2]
  omega
def ZQv (X : MS) : Prop := ∀ j, j < X.i -> ∃ k t n l, X.rows j = rowT k t n l
theorem ZLR {n nw ty : Nat} (ek et ew : Nat -> Int) {X : MS} (H : MOk n ty X) (hr : ZQv X) {l : Nat} (hi : X.i + 3 * l <= 90000) (hnow : X.now + l <= 1099511627776) : ∀ k, k <= l -> ZQv (MS.run n nw ek et ew X k).2
 | 0, _ => hr
 | k + 1, hk => by
  obtain ⟨⟨h1, h2, h3⟩, h4, h5⟩ := ZGD (nw := nw) ek et ew H hi hnow k (by omega)
  have hd := ZLQ (nw := nw) (ek k) (et k) (ew k) h1 (by omega) (by omega)
  have ih := ZLR (nw := nw) ek et ew H hr hi hnow k (by omega)
  intro j hj
  show ∃ k' t n' l', ((MS.run n nw ek et ew X k).2.Do n nw (ek k) (et k) (ew k)).2.rows j = rowT k' t n' l'
  by_cases hj2 : j < (MS.run n nw ek et ew X k).2.i
  ·rw [hd.old j hj2]; exact ih j hj2
  ·obtain ⟨a, b, c, e⟩ := hd.new j (by omega) hj
   exact ⟨a, b, _, c, e⟩
theorem ZNh (haw : ZAC Tryz.prog 15 [] 0 [] fun x h n => x = ZAW true /\ n = 0 /\ h = []) (kind : Int) (m : Nat) (h : Nat -> Int) (start slots pool budget glob loc : Int) (l : Nat) (ev : Nat -> List Value) (at_ : Int) (hf : ZKU kind m h slots pool budget glob loc l 300 = false) :
  ZAC Tryz.prog 7 [(0, some (.ro 1 m (numE h))), (1, some (.ro 3 l ev))] 2 [ZB5 kind 0 m start slots pool budget glob loc, .l (.s 1 3 0 l 0), .l (.v (.int .u16 at_))] fun x h' k => x = ZAW true /\ k = 2 /\ h' = [] := by
 have hfi := ZJA kind m h start slots pool budget glob loc l ev 300
 rw [hf] at hfi
 refine sE Tryz.func7 ic7_eq [.t 6] fun G hP hA => ?_
 unfold evF ic7
 conv => whnf
 refine g2 hfi haw ?_
 exact fA
theorem ZNi (haw : ZAC Tryz.prog 15 [] 0 [] fun x h n => x = ZAW true /\ n = 0 /\ h = []) (kind : Int) (m : Nat) (h : Nat -> Int) (start slots pool budget glob loc : Int) (l : Nat) (ek et ew : Nat -> Int) (a : Nat) (hf : ZKU kind m h slots pool budget glob loc l 300 = true) (hm : m <= 8) (hl : l <= 300) (ha : a < 65536)
  (S : LK) (nw : Nat) (hs : Nat -> Int) (s : PS) (N : MNew m h (ZB5 kind 0 m start slots pool budget glob loc) S nw hs s) :
  ZAC Tryz.prog 7 [(0, some (.ro 1 m (numE h))), (1, some (.ro 3 l (evR ek et ew)))] 2 [ZB5 kind 0 m start slots pool budget glob loc, .l (.s 1 3 0 l 0), .l (.v (.int .u16 (a : Int)))] fun x h' k => x = ZAW true /\ k = 2 /\ h' = [] := by
 have hfi := ZJA kind m h start slots pool budget glob loc l (evR ek et ew) 300
 rw [hf] at hfi
 have hmn := N.spec
 have hm0 := ZQu N
 have hi0 : (ms0 S s).i + 3 * l <= 90000 := by simp only [ms0]; omega
 have hn0 : (ms0 S s).now + l <= 1099511627776 := by simp only [ms0]; omega
 have hkl : a % (l + 1) <= l := by have := Nat.mod_lt a (show 0 < l + 1 by omega); omega
 generalize hk : a % (l + 1) = k at hkl
 have hmod : (a : Int) % ((l : Int) + 1) = (k : Int) := by rw [<- hk]; exact (Int.natCast_emod a (l + 1)).symm
 have hra := ZC6 m nw S.T hs (ms0 S s) ek et ew l (by omega) N.nw hm0 hi0 hn0 (by omega)
 have hr1 := ZC6 m nw S.T hs (ms0 S s) ek et ew k (by omega) N.nw hm0 (by omega) (by omega) (by omega)
 obtain ⟨⟨b1, b2, b3⟩, b4, b5⟩ := ZGD (nw := nw) ek et ew hm0 hi0 hn0 k hkl
 have hr2 := ZC6 m nw S.T hs (MS.run m nw ek et ew (ms0 S s) k).2 (fun i => ek (k + i)) (fun i => et (k + i)) (fun i => ew (k + i)) (l - k) (by omega) N.nw b1 (by omega) (by omega) (by omega)
 obtain ⟨c1, c2⟩ := ZNg m nw ek et ew (ms0 S s) k (l - k)
 rw [show k + (l - k) = l by omega] at c1 c2
 obtain ⟨⟨d1, d2, d3⟩, d4, d5⟩ := ZGD (nw := nw) ek et ew hm0 hi0 hn0 l (Nat.le_refl l)
 have hrows := ZLR (nw := nw) ek et ew hm0 (fun j hj => absurd hj (Nat.not_lt_zero j)) hi0 hn0 l (Nat.le_refl l)
 rcases hA2 : MS.run m nw ek et ew (ms0 S s) l with ⟨n2, X⟩
 rcases hB1 : MS.run m nw ek et ew (ms0 S s) k with ⟨n1, Z⟩
 rw [hB1] at hr1 hr2 c1 c2 b4 b5
 simp only at hr1 hr2 c1 c2 b4 b5
 rcases hB2 : MS.run m nw (fun i => ek (k + i)) (fun i => et (k + i)) (fun i => ew (k + i)) Z (l - k) with ⟨n3, Y⟩
 rw [hB2] at hr2 c1 c2
 rw [hA2] at hra c1 c2 d1 d2 d3 d4 d5 hrows
 simp only at hr2 hra c1 c2 d1 d2 d3 d4 d5 hrows
 subst c1
 have htr := ZEK m nw S.T hs Y d1.i
 have hnw := ZH1 m nw S.T hs Y
 have hidl := ZG2 m nw S.T hs Y
 have hw := ZH2 nw Y.s.ws hs N.nw
 have hnn := N.nw
 have hyi : Y.i <= 1000 := by simp only [ms0] at d2; omega
 refine sE Tryz.func7 ic7_eq [.t 6] fun G hP hA => ?_
 unfold evF ic7
 conv => whnf
 refine g2 hfi hmn ?_
 refine remI (by omega) (by omega) ?_
 rw [hmod]
 conv => whnf
 refine g0 ?_
 refine ZEk (v := [_, _]) (ZAQ.nilc 5 2 4 (fun _ => []) rfl rfl) ?_
 refine ZEk (v := [_, _]) (ZAQ.nilc 9 2 4 (fun _ => []) rfl rfl) ?_
 refine cA (hra) ?_
 refine g0 ?_
 refine cQ (hr1) ?_ ?_
 ·exact ⟨ZAA, ZAA, ZAA, ZAA, ZAA, ⟨rfl, hkl, fun i hi => rfl⟩, trivial⟩
 conv => whnf
 refine g0 ?_
 refine ZJ9 1 rfl rfl ?_ ?_
 ·show nadd 0 (k : Int).toNat + (l - (k : Int).toNat) <= l
  simp only [ZAI]; omega
 conv => whnf
 refine cQ (hr2) ?_ ?_
 ·exact ⟨ZAA, ZAA, ZAA, ZAA, ZAA, ⟨rfl, Nat.le_refl _, fun i hi => rfl⟩, trivial⟩
 conv => whnf
 refine g3 hnw hidl htr ?_
 refine ZAf (α := Nat) (ds := []) (N := 21) (fun j => [(99, sInt .i64 (j : Int))]) [] (fun j => [])
  (fun j => j <= Y.i) (fun j => Y.i - j) 0 (Nat.zero_le _) ?_ fun j hj => ?_
 ·conv => whnf
  refine ZAR hA [0, 1, 2, 3, 4, 5, 6, 7, 8, 9, 10, 11, 12, 13, 14, 15, 16, 17, 18, 19, 20] rfl rfl rfl ZAj ?_ rfl
  exact ZAA
 conv => whnf
 refine dsplit (fun hq2 => ?_) (fun hq2 => ?_)
 ·have hq3 : (j : Int) < (Y.i : Int) := hq2
  obtain ⟨r1, r2, r3, r4, hrow⟩ := hrows j (by omega)
  have hrow' : Y.rows (nadd 0 ((j : Int)).toNat) = rowT r1 r2 r3 r4 := by rw [ZAI]; exact hrow
  conv => whnf
  refine gr0 hrow' ?_
  refine bsplit (fun hb => absurd hb (by simp [xb])) (fun _ => ?_)
  conv => whnf
  refine g0 ?_
  refine ⟨j + 1, by omega, by omega, ?_⟩
  conv => whnf
  refine ZAR hA [0, 1, 2, 3, 4, 5, 6, 7, 8, 9, 10, 11, 12, 13, 14, 15, 16, 17, 18, 19, 20] rfl rfl rfl ZAj ?_ rfl
  exact ZAA
 conv => whnf
 refine ZGi (ZAY 4 (ks := []) (H := ZBY m nw Y.s.ws hs Y.s.cp Y.s.ms Y.s.ac Y.s.wr) (np := 4) rfl (by decide) rfl rfl rfl) ?_
 refine ZGi (ZAY 8 (ks := []) (H := ZBY m nw Y.s.ws hs Y.s.cp Y.s.ms Y.s.ac Y.s.wr) (np := 4) rfl (by decide) rfl rfl rfl) ?_
 conv => whnf
 refine g1 hw ?_
 refine ZAf (α := Nat) (ds := []) (N := 33) (fun j => [(130, sInt .i64 (j : Int))]) [] (fun j => [])
  (fun j => j <= nw) (fun j => nw - j) 0 (Nat.zero_le _) ?_ fun j hj => ?_
 ·conv => whnf
  refine ZAR hA [0, 1, 2, 3, 4, 5, 6, 7, 8, 9, 10, 11, 12, 13, 14, 15, 16, 17, 18, 19, 20, 21, 22, 23, 24, 25, 26, 27, 28, 29, 30, 31, 32] rfl rfl rfl ZAj ?_ rfl
  exact ZAA
 conv => whnf
 refine dsplit (fun hq2 => ?_) (fun hq2 => ?_)
 ·have hq3 : (j : Int) < (nw : Int) := hq2
  conv => whnf
  refine g0 ?_
  refine ⟨j + 1, by omega, by omega, ?_⟩
  conv => whnf
  refine ZAR hA [0, 1, 2, 3, 4, 5, 6, 7, 8, 9, 10, 11, 12, 13, 14, 15, 16, 17, 18, 19, 20, 21, 22, 23, 24, 25, 26, 27, 28, 29, 30, 31, 32] rfl rfl rfl ZAj ?_ rfl
  exact ZAA
 conv => whnf
 refine g1 haw ?_
 exact fA
theorem ZNe {f : Nat -> List Value} {m : Nat} (hf : ∀ i, i < m -> ZC3 [.i .i64] (f i)) : ∃ h : Nat -> Int, ∀ i, i < m -> numE h i = f i := by
 obtain ⟨g, hg⟩ := ZJ5 (α := Int) (p := fun i x => ([.int .i64 x] : List Value) = f i) (n := m) fun i hi => by
  obtain ⟨v1, l1, e1, ⟨k, rfl, hk⟩, h1⟩ := ZEF (hf i hi)
  obtain rfl := ZJ6 h1
  exact ⟨k, e1.symm⟩
 exact ⟨g, hg⟩
theorem ZNf {p : OP} (h : p.1 = ZCI Tryz.prog 25 /\ ∃ cols, ZCX Tryz.prog 6 25 = some cols /\ OCTs Tryz.prog cols p.2) :
  ∃ (kind : Int) (m : Nat) (f : Nat -> List Value) (l : Go.Sx.Loc) (F : List Nat) (start : Nat) (slots pool budget glob loc : Int),
   p = (true, [.v (.int .i64 kind), .c ⟨.ro 1 m f, fun k => .s k 1 0 m 0, l, F⟩, .v (.int .u32 start), .v (.int .i64 slots), .v (.int .i64 pool), .v (.int .i64 budget), .v (.int .i64 glob), .v (.int .i64 loc)]) /\
   start < 4294967296 /\ Lim Tryz.prog 3 m /\ ∀ i, i < m -> ZC3 [.i .i64] (f i) := by
 obtain ⟨xs, rfl, hh⟩ := ZFc (cols := [.i .i64, .sl 3, .i .u32, .i .i64, .i .i64, .i .i64, .i .i64, .i .i64]) (b := true) h (by kernel_rfl) (by kernel_rfl)
 obtain ⟨x1, y1, rfl, q1, hh⟩ := ZBq hh
 obtain ⟨x2, y2, rfl, q2, hh⟩ := ZBq hh
 obtain ⟨x3, y3, rfl, q3, hh⟩ := ZBq hh
 obtain ⟨x4, y4, rfl, q4, hh⟩ := ZBq hh
 obtain ⟨x5, y5, rfl, q5, hh⟩ := ZBq hh
 obtain ⟨x6, y6, rfl, q6, hh⟩ := ZBq hh
 obtain ⟨x7, y7, rfl, q7, hh⟩ := ZBq hh
 obtain ⟨x8, y8, rfl, q8, hh⟩ := ZBq hh
 obtain rfl := ZIg hh
 obtain ⟨_, rfl, kind, rfl, _⟩ := q1
 obtain ⟨m, f, l, F, rfl, hm, hf⟩ := ZJ3 (cols := [.i .i64]) q2 (by kernel_rfl)
 obtain ⟨_, rfl, st, rfl, hs⟩ := q3
 obtain ⟨_, rfl, s4, rfl, _⟩ := q4
 obtain ⟨_, rfl, s5, rfl, _⟩ := q5
 obtain ⟨_, rfl, s6, rfl, _⟩ := q6
 obtain ⟨_, rfl, s7, rfl, _⟩ := q7
 obtain ⟨_, rfl, s8, rfl, _⟩ := q8
 have hs1 : (0 : Int) <= st := hs.1
 have hs2 : st <= (4294967295 : Int) := hs.2
 obtain ⟨start, rfl⟩ : ∃ n : Nat, st = n := ⟨st.toNat, by omega⟩
 exact ⟨kind, m, f, l, F, start, s4, s5, s6, s7, s8, rfl, by omega, hm, hf⟩
theorem ZOr {f : Nat -> List Value} {m : Nat} (hf : ∀ i, i < m -> ZC3 [.i .i64, .i .i64, .i .i64] (f i)) : ∃ ek et ew : Nat -> Int, ∀ i, i < m -> evR ek et ew i = f i := by
 obtain ⟨g, hg⟩ := ZJ5 (α := Int × Int × Int) (p := fun i x => ([.int .i64 x.1, .int .i64 x.2.1, .int .i64 x.2.2] : List Value) = f i) (n := m) fun i hi => by
  obtain ⟨v1, l1, e1, ⟨k1, rfl, _⟩, h1⟩ := ZEF (hf i hi)
  obtain ⟨v2, l2, rfl, ⟨k2, rfl, _⟩, h2⟩ := ZEF h1
  obtain ⟨v3, l3, rfl, ⟨k3, rfl, _⟩, h3⟩ := ZEF h2
  obtain rfl := ZJ6 h3
  exact ⟨(k1, k2, k3), e1.symm⟩
 exact ⟨fun i => (g i).1, fun i => (g i).2.1, fun i => (g i).2.2, hg⟩
theorem ZOs {kind : Int} {m : Nat} {h : Nat -> Int} {slots pool budget glob loc : Int} {l : Nat} {most : Int} (hf : ZKU kind m h slots pool budget glob loc l most = true) : m <= 8 /\ ZB4 kind m h slots pool budget glob loc = 0 /\ (l : Int) <= most := by
 simpa [ZKU, and_assoc] using hf
theorem ZKV (kind : Int) (m : Nat) (h : Nat -> Int) (start : Nat) (slots pool budget glob loc : Int) (l : Nat) (ek et ew : Nat -> Int) (a : Nat) (ha : a < 65536) (hs : start < 4294967296) :
  ZAC Tryz.prog 7 [(0, some (.ro 1 m (numE h))), (1, some (.ro 3 l (evR ek et ew)))] 2 [ZB5 kind 0 m start slots pool budget glob loc, .l (.s 1 3 0 l 0), .l (.v (.int .u16 (a : Int)))] fun x h' k => x = ZAW true := by
 refine ZAC.mono (Q := fun x h' k => x = ZAW true /\ k = 2 /\ h' = []) ?_ fun x h k hx => hx.1
 cases hf : ZKU kind m h slots pool budget glob loc l 300 with
 | false => exact ZNh ZGE kind m h start slots pool budget glob loc l _ _ hf
 | true =>
  obtain ⟨h1, h2, h3⟩ := ZOs hf
  obtain ⟨S, nw, hs', s, N⟩ := ZKQ h2 hs
  exact ZNi ZGE kind m h start slots pool budget glob loc l ek et ew a hf h1 (by omega) ha S nw hs' s N
theorem machineParts_law (ps : List OP) (h : ZEo Tryz.prog Tryz.f7.params.toList ps) : ZAC Tryz.prog 7 (ZLC 0 (ZGv ps)) (ZGv ps).length (avsP 0 ps) fun x _ _ => x = ZAW true := by
 rw [Tryz.params7] at h
 obtain ⟨p1, ps1, rfl, h1, h⟩ := ZFb h
 obtain ⟨p2, ps2, rfl, h2, h⟩ := ZFb h
 obtain ⟨p3, ps3, rfl, h3, h⟩ := ZFb h
 obtain rfl := ZOY h
 obtain ⟨kind, m, f, l, F, start, slots, pool, budget, glob, loc, rfl, hs, hm, hf⟩ := ZNf h1
 obtain ⟨N, g, l2, F2, rfl, hN, hg⟩ := ZLE (e := 41) (cols := [.i .i64, .i .i64, .i .i64]) h2 (by kernel_rfl) (by kernel_rfl) (by kernel_rfl)
 obtain ⟨a, rfl, ha⟩ := ZOZ (k := .u16) h3 (by kernel_rfl) (by kernel_rfl)
 obtain ⟨H, hH⟩ := ZNe hf
 obtain ⟨ek, et, ew, hE⟩ := ZOr hg
 have hb1 : (0 : Int) <= a := ha.1
 have hb2 : a <= (65535 : Int) := ha.2
 obtain ⟨b, rfl⟩ : ∃ b : Nat, a = b := ⟨a.toNat, by omega⟩
 exact (ZKV kind m H start slots pool budget glob loc N ek et ew b (by omega) hs).pre (And.intro (And.intro rfl (And.intro (Nat.le_refl _) fun i hi => (hH i hi).symm)) (And.intro (And.intro rfl (And.intro (Nat.le_refl _) fun i hi => (hE i hi).symm)) trivial))
end Go.Proofs.YtlkfolopbehikaaGreat
