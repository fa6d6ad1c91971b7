/- Locks: a configuration laid and built (a lock of Craig, Landin and Hagersten). -/
import Derived.Test.YtmccmanekbiadaaDoorKf
set_option linter.unusedSimpArgs false
set_option linter.unusedVariables false
namespace Go.Proofs.YtmccmanekbiadaaDoor
open Go Go.Sx

/-- A configuration; its homes lie under name k. -/
def confA (kind : Int) (k m : Nat) (start slots pool budget glob loc : Int) : AV := .a [.v (.int .i64 kind), .s k 1 0 m 0, .v (.int .u32 start), .v (.int .i64 slots), .v (.int .i64 pool), .v (.int .i64 budget), .v (.int .i64 glob), .v (.int .i64 loc)]
theorem anyZ_false {p : Int → Bool} {f : Nat → Int} : ∀ {n : Nat}, anyZ p f n = false ↔ ∀ i, i < n → p (f i) = false
  | 0 => ⟨fun _ i hi => absurd hi (Nat.not_lt_zero i), fun _ => rfl⟩
  | n + 1 => by
    rw [anyZ, Bool.or_eq_false_iff, anyZ_false]
    constructor
    · rintro ⟨h1, h2⟩ i hi
      rcases Nat.lt_succ_iff_lt_or_eq.1 hi with h | rfl
      · exact h1 i h
      · exact h2
    · exact fun h => ⟨fun i hi => h i (by omega), h n (by omega)⟩
theorem tail_all {Q : Int → Prop} {f : Nat → Int} {m : Nat} {v : Int} (h : ∀ j, j < m → Q (f j)) (hv : Q v) (j : Nat) : Q (tailF f m v j) := by
  unfold tailF
  by_cases hj : j < m
  · rw [if_pos hj]; exact h j hj
  · rw [if_neg hj]; exact hv
theorem snoc_all {Q : Int → Prop} {f h : Nat → Int} {m : Nat} (hf : ∀ j, j < m → Q (f j)) : ∀ i, (∀ j, j < i → Q (h j)) → ∀ j, j < m + i → Q (snocF f m h i j)
  | 0, _, j, hj => hf j hj
  | i + 1, hh, j, _ => tail_all (snoc_all hf i fun j hj => hh j (by omega)) (hh i (by omega)) j
theorem clhHs_good {hs h : Nat → Int} {m : Nat} (hm : 1 ≤ m) (hb : anyZ badH h m = false) : anyZ badH (clhHs hs 0 h m) (2 + m) = false := by
  have h0 := anyZ_false.1 hb
  refine anyZ_false.2 (snoc_all (Q := fun x => badH x = false) (m := 2) (fun j hj => ?_) m h0)
  exact tail_all (Q := fun x => badH x = false) (fun j hj => tail_all (Q := fun x => badH x = false) (fun j hj => absurd hj (Nat.not_lt_zero _)) (h0 0 hm) j) (h0 0 hm) j
theorem lay3_bad (th : Int) (hs ws h : Nat → Int) (m : Nat) (start slots pool budget glob loc : Int) (hm : m ≤ 80) (hb : m < 1 ∨ 64 < m ∨ anyZ badH h m = true) :
    FSpec Tryd.prog 21 [(0, some (planP th 0 hs ws)), (1, some (.ro 1 m (numE h)))] 2 [.l (.p 0 0 0 0), confA 3 1 m start slots pool budget glob loc] fun x h' k =>
      x = .t [.l (.v (.iface 78 (.pointer none))), .l (.v (.int .i64 1))] ∧ k = 2 ∧ h' = [(0, some (planP th 0 hs ws))] := by
  have hcn := clhNew_bad th 0 hs ws h m hm hb
  refine spec_of_ev Tryd.func21 ic21_eq (rs := [.t 4, .t 5]) (by kernel_rfl) (by kernel_rfl) (by kernel_rfl) fun G hP hA => ?_
  unfold evF ic21
  conv => whnf
  (refine call_auto hP (hcn) ?_; conv => whnf); (refine ⟨⟨rfl, rfl, rfl, (by repeat' (first | exact trivial | exact rfl | (intro _ _; exact rfl) | (intro _ hj; exact absurd hj (Nat.not_lt_zero _)) | exact Nat.le_refl _ | exact Or.inl (Or.inl (And.intro (fun h => h) rfl)) | exact Or.inl rfl | apply And.intro)), rfl, rfl⟩, ?_⟩; conv => whnf)
  (refine fin_auto ?_; conv => whnf); exact ⟨rfl, rfl, rfl, rfl, (by repeat' (first | exact trivial | exact rfl | (intro _ _; exact rfl) | (intro _ hj; exact absurd hj (Nat.not_lt_zero _)) | exact Nat.le_refl _ | exact Or.inl (Or.inl (And.intro (fun h => h) rfl)) | exact Or.inl rfl | apply And.intro)), rfl⟩
theorem lay3_ok (th : Int) (hs ws h : Nat → Int) (m : Nat) (start slots pool budget glob loc : Int) (hm : 1 ≤ m ∧ m ≤ 64) (hb : anyZ badH h m = false) :
    FSpec Tryd.prog 21 [(0, some (planP th 0 hs ws)), (1, some (.ro 1 m (numE h)))] 2 [.l (.p 0 0 0 0), confA 3 1 m start slots pool budget glob loc] fun x h' k =>
      x = .t [.l (.i 78 2), .l (.v (.int .i64 0))] ∧ k = 3 ∧ h' = [(0, some (planP th (2 + m) (clhHs hs 0 h m) (clhWs ws 0 m))), (2, some (clhP0 m 0 (fun _ => 0) (fun _ => -1) (fun i => i + 1) (fun _ => 0) fun _ => 0))] := by
  have hcn := clhNew_ok th 0 hs ws h m (by omega) hm hb
  rw [show 0 + 2 + m = 2 + m by omega] at hcn
  refine spec_of_ev Tryd.func21 ic21_eq (rs := [.t 4, .t 5]) (by kernel_rfl) (by kernel_rfl) (by kernel_rfl) fun G hP hA => ?_
  unfold evF ic21
  conv => whnf
  (refine call_auto hP (hcn) ?_; conv => whnf); (refine ⟨⟨rfl, rfl, rfl, (by repeat' (first | exact trivial | exact rfl | (intro _ _; exact rfl) | (intro _ hj; exact absurd hj (Nat.not_lt_zero _)) | exact Nat.le_refl _ | exact Or.inl (Or.inl (And.intro (fun h => h) rfl)) | exact Or.inl rfl | apply And.intro)), rfl, rfl⟩, ?_⟩; conv => whnf)
  (refine fin_auto ?_; conv => whnf); exact ⟨rfl, rfl, rfl, rfl, (by repeat' (first | exact trivial | exact rfl | (intro _ _; exact rfl) | (intro _ hj; exact absurd hj (Nat.not_lt_zero _)) | exact Nat.le_refl _ | exact Or.inl (Or.inl (And.intro (fun h => h) rfl)) | exact Or.inl rfl | apply And.intro)), rfl⟩
theorem layNone (th : Int) (hs ws h : Nat → Int) (m : Nat) (kind start slots pool budget glob loc : Int) (hk : kind < 1 ∨ 7 < kind) :
    FSpec Tryd.prog 21 [(0, some (planP th 0 hs ws)), (1, some (.ro 1 m (numE h)))] 2 [.l (.p 0 0 0 0), confA kind 1 m start slots pool budget glob loc] fun x h' k =>
      x = .t [.l (.v .nilIface), .l (.v (.int .i64 7))] ∧ k = 2 ∧ h' = [(0, some (planP th 0 hs ws))] := by
  refine spec_of_ev Tryd.func21 ic21_eq (rs := [.t 4, .t 5]) (by kernel_rfl) (by kernel_rfl) (by kernel_rfl) fun G hP hA => ?_
  unfold evF ic21
  conv => whnf
  (repeat' (first | (refine join_plain ?_; conv => whnf) | (refine dsplit (fun _ => ?_) (fun _ => ?_) <;> conv => whnf)))
  all_goals first | (exfalso; omega) | skip
  (refine fin_auto ?_; conv => whnf); exact ⟨rfl, rfl, rfl, rfl, (by repeat' (first | exact trivial | exact rfl | (intro _ _; exact rfl) | (intro _ hj; exact absurd hj (Nat.not_lt_zero _)) | exact Nat.le_refl _ | exact Or.inl (Or.inl (And.intro (fun h => h) rfl)) | exact Or.inl rfl | apply And.intro)), rfl⟩
theorem buildNew3_ok (h : Nat → Int) (m : Nat) (start slots pool budget glob loc : Int) (hm : 1 ≤ m ∧ m ≤ 64) (hb : anyZ badH h m = false) :
    FSpec Tryd.prog 15 [(0, some (.ro 1 m (numE h)))] 1 [confA 3 0 m start slots pool budget glob loc] fun x h' k =>
      x = .t [.l (.i 78 1), .l (.p 2 0 0 0), .l (.v (.int .i64 0))] ∧ k = 3 ∧ h' = [(1, some (.ob [2] (PackR (clhH1 m 0 (fun _ => 0) (fun _ => -1) (fun i => i + 1) (fun _ => 0) fun _ => 0) 4))),
        (2, some (portP m (2 + m) (cutF (clhWs (fun _ => 0) 0 m) (2 + m)) (clhHs (fun _ => 0) 0 h m) (fun _ => 0) (fun _ => 0) (fun _ => 0) fun _ => 0))] := by
  have hpn := planNew_spec (m : Int) (fun _ => 0) fun _ => 0
  have hly := lay3_ok (m : Int) (fun _ => 0) (fun _ => 0) h m start slots pool budget glob loc hm hb
  have hpp := planPort_ok m (2 + m) (clhHs (fun _ => 0) 0 h m) (clhWs (fun _ => 0) 0 m) hm (by omega) (clhHs_good hm.1 hb)
  have hu := clhUse_spec m 0 (fun _ => 0) (fun _ => -1) (fun i => i + 1) (fun _ => 0) fun _ => 0
  refine spec_of_ev Tryd.func15 ic15_eq (rs := [.t 2, .t 3, .t 4]) (by kernel_rfl) (by kernel_rfl) (by kernel_rfl) fun G hP hA => ?_
  unfold evF ic15
  conv => whnf
  (repeat' (first | (refine And.intro (by (first | omega | assumption | (simp only [nadd_eq]; omega) | (simp [nadd_eq]; omega))) ?_; conv => whnf) | (refine arI64 (by omega) (by omega) ?_; conv => whnf) | (refine arU32 (by omega) (by omega) ?_; conv => whnf) | (refine arU8 (by omega) (by omega) ?_; conv => whnf)))
  (refine call_auto hP (hpn) ?_; conv => whnf); (refine ⟨⟨rfl, rfl, rfl, (by repeat' (first | exact trivial | exact rfl | (intro _ _; exact rfl) | (intro _ hj; exact absurd hj (Nat.not_lt_zero _)) | exact Nat.le_refl _ | exact Or.inl (Or.inl (And.intro (fun h => h) rfl)) | exact Or.inl rfl | apply And.intro)), rfl, rfl⟩, ?_⟩; conv => whnf)
  (refine call_auto hP (hly) ?_; conv => whnf); (refine ⟨⟨rfl, rfl, rfl, (by repeat' (first | exact trivial | exact rfl | (intro _ _; exact rfl) | (intro _ hj; exact absurd hj (Nat.not_lt_zero _)) | exact Nat.le_refl _ | exact Or.inl (Or.inl (And.intro (fun h => h) rfl)) | exact Or.inl rfl | apply And.intro)), rfl, rfl⟩, ?_⟩; conv => whnf)
  (refine call_auto hP (hpp) ?_; conv => whnf); (refine ⟨⟨rfl, rfl, rfl, (by repeat' (first | exact trivial | exact rfl | (intro _ _; exact rfl) | (intro _ hj; exact absurd hj (Nat.not_lt_zero _)) | exact Nat.le_refl _ | exact Or.inl (Or.inl (And.intro (fun h => h) rfl)) | exact Or.inl rfl | apply And.intro)), rfl, rfl⟩, ?_⟩; conv => whnf)
  refine inv_own hP invUse_clh ?_
  (refine call_auto hP (hu) ?_; conv => whnf); (refine ⟨⟨rfl, rfl, rfl, (by repeat' (first | exact trivial | exact rfl | (intro _ _; exact rfl) | (intro _ hj; exact absurd hj (Nat.not_lt_zero _)) | exact Nat.le_refl _ | exact Or.inl (Or.inl (And.intro (fun h => h) rfl)) | exact Or.inl rfl | apply And.intro)), rfl, rfl⟩, ?_⟩; conv => whnf)
  (refine fin_auto ?_; conv => whnf); exact ⟨rfl, rfl, rfl, rfl, (by repeat' (first | exact trivial | exact rfl | (intro _ _; exact rfl) | (intro _ hj; exact absurd hj (Nat.not_lt_zero _)) | exact Nat.le_refl _ | exact Or.inl (Or.inl (And.intro (fun h => h) rfl)) | exact Or.inl rfl | apply And.intro)), rfl⟩
end Go.Proofs.YtmccmanekbiadaaDoor
