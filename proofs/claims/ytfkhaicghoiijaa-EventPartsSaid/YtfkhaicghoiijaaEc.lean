/- EventEncodes, EventParts: Encode. -/
import Derived.Test.YtfkhaicghoiijaaEb
namespace Go.Proofs.Ytfkhaicghoiijaa
open Go Go.Sx

def encE (e : Ev) : List Nat := if e.k = 1 then [8 * e.t.toNat] else if e.k = 2 then [4] else if e.k = 4 then [8 * e.t.toNat + 7] else if e.w < 0 then [8 * e.t.toNat + 5] else [8 * e.t.toNat + 6, e.w.toNat]
def encN (f : Nat → Ev) : Nat → List Nat
  | 0 => []
  | n + 1 => encN f n ++ encE (f n)
def isEv (e : Ev) : Bool := rightE e.k e.t e.w
theorem encE_len (e : Ev) : (encE e).length ≤ 2 := by unfold encE; (repeat' split) <;> simp
theorem encN_len (f : Nat → Ev) : ∀ n, (encN f n).length ≤ 2 * n
  | 0 => Nat.le_refl _
  | n + 1 => by have := encN_len f n; have := encE_len (f n); simp only [encN, List.length_append]; omega
theorem or8i {t d : Int} {c : Nat} (h0 : 0 ≤ t) (h1 : t ≤ 31) (hc : c < 8) (hd : d = (c : Int)) : bitZ .or .u8 (8 * t) d = ((8 * t.toNat + c : Nat) : Int) := by
  subst hd
  obtain ⟨n, rfl⟩ : ∃ n : Nat, t = n := ⟨t.toNat, by omega⟩
  exact or8 (by omega) hc
theorem bytes_app1 (l : List Nat) (x : Nat) (g : Nat → List Value) (hg : g 0 = [.int .u8 (x : Int)]) : ∀ j, j < l.length + 1 → (if j < l.length then bytesE l j else g (j - l.length)) = bytesE (l ++ [x]) j := fun j hj => by
  by_cases h : j < l.length
  · simp [h, bytesE, List.getElem?_append_left h]
  · obtain rfl : j = l.length := by omega
    simp [bytesE, hg]
theorem bytes_app2 (l : List Nat) (x y : Nat) (g : Nat → List Value) (hg : g 0 = [.int .u8 (x : Int)]) (hg1 : g 1 = [.int .u8 (y : Int)]) : ∀ j, j < l.length + 2 → (if j < l.length then bytesE l j else g (j - l.length)) = bytesE (l ++ [x, y]) j := fun j hj => by
  by_cases h : j < l.length
  · simp [h, bytesE, List.getElem?_append_left h]
  · by_cases h2 : j = l.length
    · subst h2; simp [bytesE, hg]
    · obtain rfl : j = l.length + 1 := by omega
      rw [if_neg h, show l.length + 1 - l.length = 1 by omega, hg1]
      simp [bytesE]
theorem enc_spec (f : Nat → Ev) (m i0 : Nat) (hm : m ≤ 1000) (h0 : i0 ≤ m) (hr : ∀ i, i < i0 → isEv (f i) = true) (hw : i0 < m → isEv (f i0) = false) :
    FSpec Try.prog 13 [(0, some (.ro 3 m (evsE f)))] 1 [.l (.s 0 3 0 m 0)] fun x h n =>
      x = (if i0 = m then .t [.l (.s 1 1 0 (encN f m).length 0), .l (.v (.int .i64 m)), .l (.v (.int .i64 0))] else .t [.l (.v (.slice none 0 0)), .l (.v (.int .i64 i0)), .l (.v (.int .i64 4))]) ∧
      n = (if i0 = m then 2 else 1) ∧ h = (if i0 = m then [(1, some (.ar 1 (encN f m).length (bytesE (encN f m))))] else []) := by
  refine spec_of_ev Try.func13 ic13_eq (rs := [.t 2, .t 3, .t 4]) (by kernel_rfl) (by kernel_rfl) (by kernel_rfl) fun G hP hA => ?_
  unfold evF ic13
  conv => whnf
  refine loop_auto (α := Nat) (ds := []) (N := 2) (fun i => [(5, .o (.l (.s 1 1 0 (encN f i).length 0))), (11, sInt .i64 (i : Int))]) [] (fun i => [(1, some (.ar 1 (encN f i).length (bytesE (encN f i))))])
    (fun i => i ≤ i0) (fun i => i0 - i) 0 (Nat.zero_le _) ?_ fun i hi => ?_
  · conv => whnf
    refine Imp.trans (imp_nil 5 1 (fun _ => []) rfl) ?_
    (conv => whnf); (refine imp_auto hA ?_; conv => whnf); exact ⟨rfl, rfl, rfl, (by repeat' (first | exact trivial | exact rfl | apply And.intro)), (by repeat' (first | exact trivial | exact rfl | (intro _ _; exact rfl) | (intro _ hj; exact absurd hj (Nat.not_lt_zero _)) | exact Nat.le_refl _ | exact Or.inl (And.intro (fun h => h) rfl) | apply And.intro)), rfl⟩
  · have hl := encN_len f i
    have hni : nadd 0 ((i : Nat) : Int).toNat = i := by simp [nadd_eq]
    conv => whnf
    refine dsplit (fun h1 => ?_) (fun h1 => ?_)
    · conv => whnf
      (refine join_plain ?_; conv => whnf)
      (repeat' (first | (refine And.intro (by (first | omega | (simp only [nadd_eq]; omega) | (simp [nadd_eq]; omega))) ?_; conv => whnf) | (refine arI64 (by omega) (by omega) ?_; conv => whnf) | (refine arU32 (by omega) (by omega) ?_; conv => whnf) | (refine arU8 (by omega) (by omega) ?_; conv => whnf)))
      (refine call_auto hP (right_spec (f i).k (f i).t (f i).w) ?_; conv => whnf); (refine ⟨⟨rfl, rfl, rfl, (by repeat' (first | exact trivial | exact rfl | (intro _ _; exact rfl) | (intro _ hj; exact absurd hj (Nat.not_lt_zero _)) | exact Nat.le_refl _ | exact Or.inl (And.intro (fun h => h) rfl) | apply And.intro)), rfl, rfl⟩, ?_⟩; conv => whnf)
      by_cases hii : i = i0
      · subst hii
        have hne : ¬ i = m := by omega
        have hf : rightE (f i).k (f i).t (f i).w = false := hw (by omega)
        rw [hf, if_neg hne, if_neg hne, if_neg hne]
        conv => whnf
        (refine fin_auto ?_; conv => whnf); exact ⟨rfl, rfl, rfl, rfl, (by repeat' (first | exact trivial | exact rfl | (intro _ _; exact rfl) | (intro _ hj; exact absurd hj (Nat.not_lt_zero _)) | exact Nat.le_refl _ | exact Or.inl (And.intro (fun h => h) rfl) | apply And.intro)), rfl⟩
      · have hf : rightE (f i).k (f i).t (f i).w = true := hr i (by omega)
        have hf2 := rightE_iff.1 hf
        rw [hf]
        conv => whnf
        rw [hni]
        have ht0 : 0 ≤ (f i).t := by omega
        have ht1 : (f i).t ≤ 31 := by omega
        refine shl3 ht0 ht1 ?_
        conv => whnf
        (repeat' (first | (refine And.intro (by (first | omega | (simp only [nadd_eq]; omega) | (simp [nadd_eq]; omega))) ?_; conv => whnf) | (refine arI64 (by omega) (by omega) ?_; conv => whnf) | (refine arU32 (by omega) (by omega) ?_; conv => whnf) | (refine arU8 (by omega) (by omega) ?_; conv => whnf)))
        (refine join_plain ?_; conv => whnf)
        have e4 := or8i (c := 4) ht0 ht1 (by decide) rfl
        have e5 := or8i (c := 5) ht0 ht1 (by decide) rfl
        have e6 := or8i (c := 6) ht0 ht1 (by decide) rfl
        have e7 := or8i (c := 7) ht0 ht1 (by decide) rfl
        have e0 : 8 * (f i).t = ((8 * (f i).t.toNat : Nat) : Int) := by omega
        refine dsplit (fun h2 => ?_) (fun h2 => ?_)
        · have ht2 : (f i).t.toNat = 0 := by omega
          rw [ht2] at e4
          conv => whnf
          (repeat' (first | (refine And.intro (by (first | omega | (simp only [nadd_eq]; omega) | (simp [nadd_eq]; omega))) ?_; conv => whnf) | (refine arI64 (by omega) (by omega) ?_; conv => whnf) | (refine arU32 (by omega) (by omega) ?_; conv => whnf) | (refine arU8 (by omega) (by omega) ?_; conv => whnf)))
          have he : encE (f i) = [4] := by unfold encE; simp (disch := omega) only [if_pos, if_neg]
          have hn2 : encN f (i + 1) = encN f i ++ [4] := by rw [← he]; rfl
          have hlen : (encN f (i + 1)).length = (encN f i).length + 1 := by rw [hn2]; simp
          refine ⟨i + 1, by omega, by omega, ?_⟩
          rw [hlen]
          (conv => whnf); (refine imp_auto hA ?_; conv => whnf); refine ⟨rfl, rfl, rfl, (by repeat' (first | exact trivial | exact rfl | apply And.intro)), ?_, rfl⟩
          refine And.intro (And.intro rfl (And.intro rfl fun j hj => ?_)) (by repeat' (first | exact trivial | exact rfl | (intro _ _; exact rfl) | (intro _ hj; exact absurd hj (Nat.not_lt_zero _)) | exact Nat.le_refl _ | exact Or.inl (And.intro (fun h => h) rfl) | apply And.intro))
          rw [hn2]
          refine bytes_app1 _ _ _ ?_ j hj
          exact congrArg (fun z => [Value.int .u8 z]) e4
        · conv => whnf
          refine dsplit (fun h3 => ?_) (fun h3 => ?_)
          · conv => whnf
            (repeat' (first | (refine And.intro (by (first | omega | (simp only [nadd_eq]; omega) | (simp [nadd_eq]; omega))) ?_; conv => whnf) | (refine arI64 (by omega) (by omega) ?_; conv => whnf) | (refine arU32 (by omega) (by omega) ?_; conv => whnf) | (refine arU8 (by omega) (by omega) ?_; conv => whnf)))
            have he : encE (f i) = [8 * (f i).t.toNat + 7] := by unfold encE; simp (disch := omega) only [if_pos, if_neg]
            have hn2 : encN f (i + 1) = encN f i ++ [8 * (f i).t.toNat + 7] := by rw [← he]; rfl
            have hlen : (encN f (i + 1)).length = (encN f i).length + 1 := by rw [hn2]; simp
            refine ⟨i + 1, by omega, by omega, ?_⟩
            rw [hlen]
            (conv => whnf); (refine imp_auto hA ?_; conv => whnf); refine ⟨rfl, rfl, rfl, (by repeat' (first | exact trivial | exact rfl | apply And.intro)), ?_, rfl⟩
            refine And.intro (And.intro rfl (And.intro rfl fun j hj => ?_)) (by repeat' (first | exact trivial | exact rfl | (intro _ _; exact rfl) | (intro _ hj; exact absurd hj (Nat.not_lt_zero _)) | exact Nat.le_refl _ | exact Or.inl (And.intro (fun h => h) rfl) | apply And.intro))
            rw [hn2]
            refine bytes_app1 _ _ _ ?_ j hj
            exact congrArg (fun z => [Value.int .u8 z]) e7
          · conv => whnf
            refine dsplit (fun h4 => ?_) (fun h4 => ?_)
            · conv => whnf
              refine dsplit (fun h5 => ?_) (fun h5 => ?_)
              · conv => whnf
                (repeat' (first | (refine And.intro (by (first | omega | (simp only [nadd_eq]; omega) | (simp [nadd_eq]; omega))) ?_; conv => whnf) | (refine arI64 (by omega) (by omega) ?_; conv => whnf) | (refine arU32 (by omega) (by omega) ?_; conv => whnf) | (refine arU8 (by omega) (by omega) ?_; conv => whnf)))
                have he : encE (f i) = [8 * (f i).t.toNat + 5] := by unfold encE; simp (disch := omega) only [if_pos, if_neg]
                have hn2 : encN f (i + 1) = encN f i ++ [8 * (f i).t.toNat + 5] := by rw [← he]; rfl
                have hlen : (encN f (i + 1)).length = (encN f i).length + 1 := by rw [hn2]; simp
                refine ⟨i + 1, by omega, by omega, ?_⟩
                rw [hlen]
                (conv => whnf); (refine imp_auto hA ?_; conv => whnf); refine ⟨rfl, rfl, rfl, (by repeat' (first | exact trivial | exact rfl | apply And.intro)), ?_, rfl⟩
                refine And.intro (And.intro rfl (And.intro rfl fun j hj => ?_)) (by repeat' (first | exact trivial | exact rfl | (intro _ _; exact rfl) | (intro _ hj; exact absurd hj (Nat.not_lt_zero _)) | exact Nat.le_refl _ | exact Or.inl (And.intro (fun h => h) rfl) | apply And.intro))
                rw [hn2]
                refine bytes_app1 _ _ _ ?_ j hj
                exact congrArg (fun z => [Value.int .u8 z]) e5
              · have ew : (f i).w = (((f i).w.toNat : Nat) : Int) := by omega
                conv => whnf
                refine dsplit (fun _ => ?_) (fun h6 => absurd h4 h6)
                conv => whnf
                (repeat' (first | (refine And.intro (by (first | omega | (simp only [nadd_eq]; omega) | (simp [nadd_eq]; omega))) ?_; conv => whnf) | (refine arI64 (by omega) (by omega) ?_; conv => whnf) | (refine arU32 (by omega) (by omega) ?_; conv => whnf) | (refine arU8 (by omega) (by omega) ?_; conv => whnf)))
                have he : encE (f i) = [8 * (f i).t.toNat + 6, (f i).w.toNat] := by unfold encE; simp (disch := omega) only [if_neg]
                have hn2 : encN f (i + 1) = encN f i ++ [8 * (f i).t.toNat + 6, (f i).w.toNat] := by rw [← he]; rfl
                have hlen : (encN f (i + 1)).length = (encN f i).length + 2 := by rw [hn2]; simp
                refine ⟨i + 1, by omega, by omega, ?_⟩
                rw [hlen]
                (conv => whnf); (refine imp_auto hA ?_; conv => whnf); refine ⟨rfl, rfl, rfl, (by repeat' (first | exact trivial | exact rfl | apply And.intro)), ?_, rfl⟩
                refine And.intro (And.intro rfl (And.intro rfl fun j hj => ?_)) (by repeat' (first | exact trivial | exact rfl | (intro _ _; exact rfl) | (intro _ hj; exact absurd hj (Nat.not_lt_zero _)) | exact Nat.le_refl _ | exact Or.inl (And.intro (fun h => h) rfl) | apply And.intro))
                rw [hn2]
                refine bytes_app2 _ _ _ _ ?_ ?_ j hj
                · exact congrArg (fun z => [Value.int .u8 z]) e6
                · exact congrArg (fun z => [Value.int .u8 z]) ew
            · conv => whnf
              refine dsplit (fun h6 => absurd h6 h4) (fun _ => ?_)
              conv => whnf
              (repeat' (first | (refine And.intro (by (first | omega | (simp only [nadd_eq]; omega) | (simp [nadd_eq]; omega))) ?_; conv => whnf) | (refine arI64 (by omega) (by omega) ?_; conv => whnf) | (refine arU32 (by omega) (by omega) ?_; conv => whnf) | (refine arU8 (by omega) (by omega) ?_; conv => whnf)))
              have he : encE (f i) = [8 * (f i).t.toNat] := by unfold encE; simp (disch := omega) only [if_pos]
              have hn2 : encN f (i + 1) = encN f i ++ [8 * (f i).t.toNat] := by rw [← he]; rfl
              have hlen : (encN f (i + 1)).length = (encN f i).length + 1 := by rw [hn2]; simp
              refine ⟨i + 1, by omega, by omega, ?_⟩
              rw [hlen]
              (conv => whnf); (refine imp_auto hA ?_; conv => whnf); refine ⟨rfl, rfl, rfl, (by repeat' (first | exact trivial | exact rfl | apply And.intro)), ?_, rfl⟩
              refine And.intro (And.intro rfl (And.intro rfl fun j hj => ?_)) (by repeat' (first | exact trivial | exact rfl | (intro _ _; exact rfl) | (intro _ hj; exact absurd hj (Nat.not_lt_zero _)) | exact Nat.le_refl _ | exact Or.inl (And.intro (fun h => h) rfl) | apply And.intro))
              rw [hn2]
              refine bytes_app1 _ _ _ ?_ j hj
              exact congrArg (fun z => [Value.int .u8 z]) e0
    · have hi : i = m := by omega
      have hi0 : i0 = m := by omega
      subst hi
      rw [if_pos hi0, if_pos hi0, if_pos hi0]
      conv => whnf
      (refine fin_auto ?_; conv => whnf); exact ⟨rfl, rfl, rfl, rfl, (by repeat' (first | exact trivial | exact rfl | (intro _ _; exact rfl) | (intro _ hj; exact absurd hj (Nat.not_lt_zero _)) | exact Nat.le_refl _ | exact Or.inl (And.intro (fun h => h) rfl) | apply And.intro)), rfl⟩
end Go.Proofs.Ytfkhaicghoiijaa
