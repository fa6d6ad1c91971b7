/- part -/
import Derived.Test.YtlkfolopbehikaaGreatSxPK
import Derived.KernelRfl
set_option linter.unusedSimpArgs false
set_option linter.unusedVariables false
namespace Go.Sx
open Go
theorem natI (i : Nat) : nadd 0 ((i : Int)).toNat = i := by simp [ZAO]
theorem ZAb {α : Type} (a : Nat) (x y : α) : (if a = a then x else y) = x := if_pos rfl
theorem aI {a b : Prop} (h : b) (ha : a := by first | omega | assumption | (simp only [ZAO]; omega) | (simp [ZAO]; omega)) : a /\ b := ⟨ha, h⟩
theorem a64 {n : Int} {K : Int -> Prop} (hk : K n) (h0 : -9223372036854775808 <= n := by omega) (h1 : n <= 9223372036854775807 := by omega) : ArP .i64 n K := ZRn h0 h1 hk
theorem a32 {n : Int} {K : Int -> Prop} (hk : K n) (h0 : 0 <= n := by omega) (h1 : n <= 4294967295 := by omega) : ArP .u32 n K := ZSm h0 h1 hk
theorem a8 {n : Int} {K : Int -> Prop} (hk : K n) (h0 : 0 <= n := by omega) (h1 : n <= 255 := by omega) : ArP .u8 n K := arU8 h0 h1 hk
theorem dY {kf kt p : Prop} [Decidable p] (h : kt) (hp : p := by first | assumption | omega) : @Bool.rec (fun _ => Prop) kf kt (decide p) := dsplit (fun _ => h) fun hq => absurd hp hq
theorem dN {kf kt p : Prop} [Decidable p] (h : kf) (hp : ¬ p := by first | assumption | omega) : @Bool.rec (fun _ => Prop) kf kt (decide p) := dsplit (fun hq => absurd hq hp) fun _ => h
theorem oI {a b : Prop} (h : b) (ha : a := by
 (conv => whnf)
 first
  | exact ⟨rfl, rfl, rfl⟩
  | (refine And.intro (by first | omega | assumption | (simp only [ZAO]; omega) | (simp [ZAO]; omega)) ?_; (conv => whnf); first | exact ⟨rfl, rfl, rfl⟩ | (refine ⟨?_, ?_, ?_⟩ <;> first | rfl | (rw [ZAb])))
  | (refine ⟨?_, ?_, ?_⟩ <;> first | rfl | (rw [ZAb]))) : a /\ b := ⟨ha, h⟩
theorem qI {k : IntKind} {a b : Int} {K : Int -> Prop} (h : K (k.wrap (a.tdiv b))) (hb : b ≠ 0 := by omega) : QuoP k a b K := by rw [ZAt]; exact ⟨hb, h⟩
theorem zA {a b c d e f g : Prop} (h : g) (ha : a := by exact rfl) (hb : b := by exact rfl) (hc : c := by exact rfl) (hd : d := by (repeat' (first | exact trivial | exact rfl | (intro _ _; exact rfl) | (intro _ hj; exact absurd hj (Nat.not_lt_zero _)) | exact Nat.le_refl _ | exact Or.inl (Or.inl (And.intro (fun h => h) rfl)) | exact Or.inl rfl | apply And.intro)); first | done | fail) (he : e := by exact rfl) (hf : f := by exact rfl) : (a /\ b /\ c /\ d /\ e /\ f) /\ g := ⟨⟨ha, hb, hc, hd, he, hf⟩, h⟩
theorem zK {a b c d e f g : Prop} (h : g) (ha : a := by exact rfl) (hb : b := by omega) (hc : c := by exact rfl) (hd : d := by exact rfl) (he : e := by (repeat' (first | exact trivial | exact rfl | (intro _ _; exact rfl) | (intro _ hj; exact absurd hj (Nat.not_lt_zero _)) | exact Nat.le_refl _ | exact Or.inl (Or.inl (And.intro (fun h => h) rfl)) | exact Or.inl rfl | apply And.intro)); first | done | fail) (hf : f := by exact rfl) : (a /\ b /\ c /\ d /\ e /\ f) /\ g := ⟨⟨ha, hb, hc, hd, he, hf⟩, h⟩
theorem zF {a b c d e f : Prop} (ha : a := by exact rfl) (hb : b := by exact rfl) (hc : c := by exact rfl) (hd : d := by exact rfl) (he : e := by (repeat' (first | exact trivial | exact rfl | (intro _ _; exact rfl) | (intro _ hj; exact absurd hj (Nat.not_lt_zero _)) | exact Nat.le_refl _ | exact Or.inl (Or.inl (And.intro (fun h => h) rfl)) | exact Or.inl rfl | apply And.intro)); first | done | fail) (hf : f := by exact rfl) : a /\ b /\ c /\ d /\ e /\ f := ⟨ha, hb, hc, hd, he, hf⟩
theorem zI {a b c d e f : Prop} (ha : a := by exact rfl) (hb : b := by exact rfl) (hc : c := by exact rfl) (hd : d := by (repeat' (first | exact trivial | exact rfl | apply And.intro)); first | done | fail) (he : e := by (repeat' (first | exact trivial | exact rfl | (intro _ _; exact rfl) | (intro _ hj; exact absurd hj (Nat.not_lt_zero _)) | exact Nat.le_refl _ | exact Or.inl (Or.inl (And.intro (fun h => h) rfl)) | exact Or.inl rfl | apply And.intro)); first | done | fail) (hf : f := by exact rfl) : a /\ b /\ c /\ d /\ e /\ f := ⟨ha, hb, hc, hd, he, hf⟩
theorem aR {k : IntKind} {n : Int} {K : Int -> Prop} (hk : K n) (h0 : k.min <= n := by first | (show (-9223372036854775808 : Int) <= _; omega) | (show (0 : Int) <= _; omega)) (h1 : n <= k.max := by first | (show _ <= (9223372036854775807 : Int); omega) | (show _ <= (4294967295 : Int); omega) | (show _ <= (255 : Int); omega)) : ArP k n K := by
 rw [ZAk, ZG2 h0 h1]; exact hk
theorem sE {P : Program} {f : FuncId} {fn : Func} {ic : IC} {pre : Heap} {np : Nat} {args : List AV} {Q : SV -> Heap -> Nat -> Prop} (hf : P.funcs[f]? = some fn) (hic : cF P fn = some ic) (rs : List RV)
  (hev : ∀ G : Ctx, G.P = P -> G.A = np -> evF G ic rs args pre np fun x h n => FinP np x h n Q) (hrs : cR P fn.results.toList = some rs := by kernel_rfl) (hb : ZCS P f = true := by kernel_rfl) (hN : decide (args.length <= fn.ntmps) = true := by kernel_rfl) : ZAE P f pre np args Q := ZNO hf hic hrs hb hN hev
theorem sG {P : Program} {f : FuncId} {fn : Func} {ic : IC} {pre pre2 : Heap} {np np2 : Nat} {args : List AV} {Q : SV -> Heap -> Nat -> Prop} (hgs : ZAW pre np pre2 np2) (hf : P.funcs[f]? = some fn) (hic : cF P fn = some ic) (rs : List RV)
  (hev : ∀ G : Ctx, G.P = P -> G.A = np -> evF G ic rs args pre2 np2 fun x h n => FinP np x h n Q) (hrs : cR P fn.results.toList = some rs := by kernel_rfl) (hb : ZCS P f = true := by kernel_rfl) (hN : decide (args.length <= fn.ntmps) = true := by kernel_rfl) : ZAE P f pre np args Q := ZF5 hgs hf hic hrs hb hN hev
end Go.Sx
