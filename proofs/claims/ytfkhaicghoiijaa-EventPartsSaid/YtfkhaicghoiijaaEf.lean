/- EventEncodes: the law's walk. -/
import Derived.Test.YtfkhaicghoiijaaEe
namespace Go.Proofs.Ytfkhaicghoiijaa
open Go Go.Sx

theorem first_wrong (f : Nat → Ev) : ∀ m : Nat, ∃ i0, i0 ≤ m ∧ (∀ i, i < i0 → isEv (f i) = true) ∧ (i0 < m → isEv (f i0) = false)
  | 0 => ⟨0, Nat.le_refl _, fun i hi => absurd hi (Nat.not_lt_zero _), fun h => absurd h (Nat.lt_irrefl _)⟩
  | m + 1 => by
    obtain ⟨i0, h1, h2, h3⟩ := first_wrong f m
    by_cases h : i0 < m
    · exact ⟨i0, by omega, h2, fun _ => h3 h⟩
    · obtain rfl : i0 = m := by omega
      cases hf : isEv (f i0) with
      | false => exact ⟨i0, by omega, h2, fun _ => hf⟩
      | true => exact ⟨i0 + 1, Nat.le_refl _, fun i hi => by
          by_cases e : i = i0
          · rw [e]; exact hf
          · exact h2 i (by omega), fun h => absurd h (Nat.lt_irrefl _)⟩
set_option maxRecDepth 20000 in
theorem encodes_big (f : Nat → Ev) (m : Nat) (hm : 200 < m) :
    FSpec Try.prog 4 [(0, some (.ro 3 m (evsE f)))] 1 [.l (.s 0 3 0 m 0)] fun x h k => x = sBool true ∧ k = 1 ∧ h = [] := by
  refine spec_of_ev Try.func4 ic4_eq (rs := [.t 2]) (by kernel_rfl) (by kernel_rfl) (by kernel_rfl) fun G hP hA => ?_
  have haw := evAwake_spec
  unfold evF ic4
  conv => whnf
  refine dsplit (fun _ => ?_) (fun h5 => absurd (show (200 : Int) < (m : Int) by omega) h5)
  conv => whnf
  (refine call_auto hP (haw) ?_; conv => whnf); (refine ⟨⟨rfl, rfl, rfl, (by repeat' (first | exact trivial | exact rfl | (intro _ _; exact rfl) | (intro _ hj; exact absurd hj (Nat.not_lt_zero _)) | exact Nat.le_refl _ | exact Or.inl (And.intro (fun h => h) rfl) | apply And.intro)), rfl, rfl⟩, ?_⟩; conv => whnf)
  (refine fin_auto ?_; conv => whnf); exact ⟨rfl, rfl, rfl, rfl, (by repeat' (first | exact trivial | exact rfl | (intro _ _; exact rfl) | (intro _ hj; exact absurd hj (Nat.not_lt_zero _)) | exact Nat.le_refl _ | exact Or.inl (And.intro (fun h => h) rfl) | apply And.intro)), rfl⟩
set_option maxRecDepth 20000 in
theorem encodes_right (f : Nat → Ev) (m i0 : Nat) (hm : m ≤ 200) (him : i0 = m) (hr : ∀ i, i < i0 → isEv (f i) = true) :
    FSpec Try.prog 4 [(0, some (.ro 3 m (evsE f)))] 1 [.l (.s 0 3 0 m 0)] fun x h k => x = sBool true ∧ k = 1 ∧ h = [] := by
  refine spec_of_ev Try.func4 ic4_eq (rs := [.t 2]) (by kernel_rfl) (by kernel_rfl) (by kernel_rfl) fun G hP hA => ?_
  have haw := evAwake_spec
  have hes := enc_spec f m i0 (by omega) (by omega) hr (fun h => by omega)
  rw [if_pos him, if_pos him, if_pos him] at hes
  subst him
  unfold evF ic4
  conv => whnf
  refine dsplit (fun h5 => by omega) (fun h5 => ?_)
  conv => whnf
  (refine call_auto hP (hes) ?_; conv => whnf); (refine ⟨⟨rfl, rfl, rfl, (by repeat' (first | exact trivial | exact rfl | (intro _ _; exact rfl) | (intro _ hj; exact absurd hj (Nat.not_lt_zero _)) | exact Nat.le_refl _ | exact Or.inl (And.intro (fun h => h) rfl) | apply And.intro)), rfl, rfl⟩, ?_⟩; conv => whnf)
  refine loop_auto (α := Nat) (ds := [22]) (N := 3) (fun i => [(6, .o (.l (.s 2 1 0 (encN f i).length 0))), (25, sInt .i64 (i : Int))]) [] (fun i => [(2, some (.ar 1 (encN f i).length (bytesE (encN f i))))])
    (fun i => i ≤ i0) (fun i => i0 - i) 0 (Nat.zero_le _) ?_ fun i hi => ?_
  · (conv => whnf); (refine imp_auto hA ?_; conv => whnf); exact ⟨rfl, rfl, rfl, (by repeat' (first | exact trivial | exact rfl | apply And.intro)), (by repeat' (first | exact trivial | exact rfl | (intro _ _; exact rfl) | (intro _ hj; exact absurd hj (Nat.not_lt_zero _)) | exact Nat.le_refl _ | exact Or.inl (And.intro (fun h => h) rfl) | apply And.intro)), rfl⟩
  · have hl := encN_len f i
    have hni : nadd 0 ((i : Nat) : Int).toNat = i := by simp [nadd_eq]
    conv => whnf
    refine dsplit (fun h1 => ?_) (fun h1 => ?_)
    · conv => whnf
      (refine join_plain ?_; conv => whnf)
      (repeat' (first | (refine And.intro (by (first | omega | (simp only [nadd_eq]; omega) | (simp [nadd_eq]; omega))) ?_; conv => whnf) | (refine arI64 (by omega) (by omega) ?_; conv => whnf) | (refine arU32 (by omega) (by omega) ?_; conv => whnf) | (refine arU8 (by omega) (by omega) ?_; conv => whnf)))
      (refine call_auto hP (refRight_spec (f i).k (f i).t (f i).w) ?_; conv => whnf); (refine ⟨⟨rfl, rfl, rfl, (by repeat' (first | exact trivial | exact rfl | (intro _ _; exact rfl) | (intro _ hj; exact absurd hj (Nat.not_lt_zero _)) | exact Nat.le_refl _ | exact Or.inl (And.intro (fun h => h) rfl) | apply And.intro)), rfl, rfl⟩, ?_⟩; conv => whnf)
      rw [hni]
      have hf : rightE (f i).k (f i).t (f i).w = true := hr i (by omega)
      have hf2 := rightE_iff.1 hf
      have ht0 : 0 ≤ (f i).t := by omega
      have ht1 : (f i).t ≤ 31 := by omega
      have e5 : 8 * (f i).t + 5 = ((8 * (f i).t.toNat + 5 : Nat) : Int) := by omega
      have e6 : 8 * (f i).t + 6 = ((8 * (f i).t.toNat + 6 : Nat) : Int) := by omega
      have e7 : 8 * (f i).t + 7 = ((8 * (f i).t.toNat + 7 : Nat) : Int) := by omega
      have e0 : 8 * (f i).t = ((8 * (f i).t.toNat : Nat) : Int) := by omega
      rw [hf]
      conv => whnf
      (refine call_auto hP (right_spec (f i).k (f i).t (f i).w) ?_; conv => whnf); (refine ⟨⟨rfl, rfl, rfl, (by repeat' (first | exact trivial | exact rfl | (intro _ _; exact rfl) | (intro _ hj; exact absurd hj (Nat.not_lt_zero _)) | exact Nat.le_refl _ | exact Or.inl (And.intro (fun h => h) rfl) | apply And.intro)), rfl, rfl⟩, ?_⟩; conv => whnf)
      rw [hf]
      conv => whnf
      refine dsplit (fun h2 => ?_) (fun h2 => ?_)
      · conv => whnf
        (repeat' (first | (refine And.intro (by (first | omega | (simp only [nadd_eq]; omega) | (simp [nadd_eq]; omega))) ?_; conv => whnf) | (refine arI64 (by omega) (by omega) ?_; conv => whnf) | (refine arU32 (by omega) (by omega) ?_; conv => whnf) | (refine arU8 (by omega) (by omega) ?_; conv => whnf)))
        have he : encE (f i) = [8 * (f i).t.toNat] := by unfold encE; simp (disch := omega) only [if_pos]
        have hn2 : encN f (i + 1) = encN f i ++ [8 * (f i).t.toNat] := by rw [← he]; rfl
        have hlen : (encN f (i + 1)).length = (encN f i).length + 1 := by rw [hn2]; simp
        refine ⟨i + 1, by omega, by omega, ?_⟩
        rw [hlen]
        (conv => whnf); (refine imp_auto hA ?_; conv => whnf); refine ⟨rfl, rfl, rfl, (by repeat' (first | exact trivial | exact rfl | apply And.intro)), ?_, rfl⟩
        refine And.intro (And.intro rfl (And.intro rfl fun j hj => ?_)) (by repeat' (first | exact trivial | exact rfl | (intro _ _; exact rfl) | (intro _ hj; exact absurd hj (Nat.not_lt_zero _)) | exact Nat.le_refl _ | exact Or.inl (And.intro (fun h => h) rfl) | apply And.intro))
        rw [hn2]
        refine bytes_app1 _ _ _ ?_ j hj
        exact congrArg (fun z => [Value.int .u8 z]) e0
      · conv => whnf
        refine dsplit (fun h3 => ?_) (fun h3 => ?_)
        · conv => whnf
          (repeat' (first | (refine And.intro (by (first | omega | (simp only [nadd_eq]; omega) | (simp [nadd_eq]; omega))) ?_; conv => whnf) | (refine arI64 (by omega) (by omega) ?_; conv => whnf) | (refine arU32 (by omega) (by omega) ?_; conv => whnf) | (refine arU8 (by omega) (by omega) ?_; conv => whnf)))
          have he : encE (f i) = [4] := by unfold encE; simp (disch := omega) only [if_pos, if_neg]
          have hn2 : encN f (i + 1) = encN f i ++ [4] := by rw [← he]; rfl
          have hlen : (encN f (i + 1)).length = (encN f i).length + 1 := by rw [hn2]; simp
          refine ⟨i + 1, by omega, by omega, ?_⟩
          rw [hlen]
          (conv => whnf); (refine imp_auto hA ?_; conv => whnf); refine ⟨rfl, rfl, rfl, (by repeat' (first | exact trivial | exact rfl | apply And.intro)), ?_, rfl⟩
          refine And.intro (And.intro rfl (And.intro rfl fun j hj => ?_)) (by repeat' (first | exact trivial | exact rfl | (intro _ _; exact rfl) | (intro _ hj; exact absurd hj (Nat.not_lt_zero _)) | exact Nat.le_refl _ | exact Or.inl (And.intro (fun h => h) rfl) | apply And.intro))
          rw [hn2]
          refine bytes_app1 _ _ _ ?_ j hj
          exact congrArg (fun z => [Value.int .u8 z]) rfl
        · conv => whnf
          refine dsplit (fun h4 => ?_) (fun h4 => ?_)
          · conv => whnf
            (repeat' (first | (refine And.intro (by (first | omega | (simp only [nadd_eq]; omega) | (simp [nadd_eq]; omega))) ?_; conv => whnf) | (refine arI64 (by omega) (by omega) ?_; conv => whnf) | (refine arU32 (by omega) (by omega) ?_; conv => whnf) | (refine arU8 (by omega) (by omega) ?_; conv => whnf)))
            have he : encE (f i) = [8 * (f i).t.toNat + 7] := by unfold encE; simp (disch := omega) only [if_pos, if_neg]
            have hn2 : encN f (i + 1) = encN f i ++ [8 * (f i).t.toNat + 7] := by rw [← he]; rfl
            have hlen : (encN f (i + 1)).length = (encN f i).length + 1 := by rw [hn2]; simp
            refine ⟨i + 1, by omega, by omega, ?_⟩
            rw [hlen]
            (conv => whnf); (refine imp_auto hA ?_; conv => whnf); refine ⟨rfl, rfl, rfl, (by repeat' (first | exact trivial | exact rfl | apply And.intro)), ?_, rfl⟩
            refine And.intro (And.intro rfl (And.intro rfl fun j hj => ?_)) (by repeat' (first | exact trivial | exact rfl | (intro _ _; exact rfl) | (intro _ hj; exact absurd hj (Nat.not_lt_zero _)) | exact Nat.le_refl _ | exact Or.inl (And.intro (fun h => h) rfl) | apply And.intro))
            rw [hn2]
            refine bytes_app1 _ _ _ ?_ j hj
            exact congrArg (fun z => [Value.int .u8 z]) e7
          · conv => whnf
            refine dsplit (fun h5 => ?_) (fun h5 => ?_)
            · conv => whnf
              (repeat' (first | (refine And.intro (by (first | omega | (simp only [nadd_eq]; omega) | (simp [nadd_eq]; omega))) ?_; conv => whnf) | (refine arI64 (by omega) (by omega) ?_; conv => whnf) | (refine arU32 (by omega) (by omega) ?_; conv => whnf) | (refine arU8 (by omega) (by omega) ?_; conv => whnf)))
              have he : encE (f i) = [8 * (f i).t.toNat + 5] := by unfold encE; simp (disch := omega) only [if_pos, if_neg]
              have hn2 : encN f (i + 1) = encN f i ++ [8 * (f i).t.toNat + 5] := by rw [← he]; rfl
              have hlen : (encN f (i + 1)).length = (encN f i).length + 1 := by rw [hn2]; simp
              refine ⟨i + 1, by omega, by omega, ?_⟩
              rw [hlen]
              (conv => whnf); (refine imp_auto hA ?_; conv => whnf); refine ⟨rfl, rfl, rfl, (by repeat' (first | exact trivial | exact rfl | apply And.intro)), ?_, rfl⟩
              refine And.intro (And.intro rfl (And.intro rfl fun j hj => ?_)) (by repeat' (first | exact trivial | exact rfl | (intro _ _; exact rfl) | (intro _ hj; exact absurd hj (Nat.not_lt_zero _)) | exact Nat.le_refl _ | exact Or.inl (And.intro (fun h => h) rfl) | apply And.intro))
              rw [hn2]
              refine bytes_app1 _ _ _ ?_ j hj
              exact congrArg (fun z => [Value.int .u8 z]) e5
            · have ew : (f i).w = (((f i).w.toNat : Nat) : Int) := by omega
              conv => whnf
              (repeat' (first | (refine And.intro (by (first | omega | (simp only [nadd_eq]; omega) | (simp [nadd_eq]; omega))) ?_; conv => whnf) | (refine arI64 (by omega) (by omega) ?_; conv => whnf) | (refine arU32 (by omega) (by omega) ?_; conv => whnf) | (refine arU8 (by omega) (by omega) ?_; conv => whnf)))
              have he : encE (f i) = [8 * (f i).t.toNat + 6, (f i).w.toNat] := by unfold encE; simp (disch := omega) only [if_neg]
              have hn2 : encN f (i + 1) = encN f i ++ [8 * (f i).t.toNat + 6, (f i).w.toNat] := by rw [← he]; rfl
              have hlen : (encN f (i + 1)).length = (encN f i).length + 2 := by rw [hn2]; simp
              refine ⟨i + 1, by omega, by omega, ?_⟩
              rw [hlen]
              (conv => whnf); (refine imp_auto hA ?_; conv => whnf); refine ⟨rfl, rfl, rfl, (by repeat' (first | exact trivial | exact rfl | apply And.intro)), ?_, rfl⟩
              refine And.intro (And.intro rfl (And.intro rfl fun j hj => ?_)) (by repeat' (first | exact trivial | exact rfl | (intro _ _; exact rfl) | (intro _ hj; exact absurd hj (Nat.not_lt_zero _)) | exact Nat.le_refl _ | exact Or.inl (And.intro (fun h => h) rfl) | apply And.intro))
              rw [hn2]
              refine bytes_app2 _ _ _ _ ?_ ?_ j hj
              · exact congrArg (fun z => [Value.int .u8 z]) e6
              · exact congrArg (fun z => [Value.int .u8 z]) ew
    · obtain rfl : i = i0 := by omega
      obtain ⟨L, hL⟩ : ∃ L, L = encN f i := ⟨_, rfl⟩
      have hLl : L.length ≤ 1000 := by rw [hL]; omega
      have hdc := dec_spec L hLl (by rw [hL]; exact encN_lt i hr)
      have hdl : dec L = (List.range i).map f := by
        have := dec_encN f [] i hr
        rw [List.append_nil, ← hL] at this
        rw [this]; simp [dec]
      obtain ⟨D, hD⟩ : ∃ D, D = dec L := ⟨_, rfl⟩
      have hDl : D.length = i := by rw [hD, hdl]; simp
      rw [← hD, hDl] at hdc
      rw [← hL]
      conv => whnf
      (refine call_auto hP (hdc) ?_; conv => whnf); (refine ⟨⟨rfl, rfl, rfl, (by repeat' (first | exact trivial | exact rfl | (intro _ _; exact rfl) | (intro _ hj; exact absurd hj (Nat.not_lt_zero _)) | exact Nat.le_refl _ | exact Or.inl (And.intro (fun h => h) rfl) | apply And.intro)), rfl, rfl⟩, ?_⟩; conv => whnf)
      refine dsplit (fun h => absurd rfl h) (fun _ => ?_)
      conv => whnf
      refine esc_b2s (el := 5) L (by rw [hP]; kernel_rfl) (by rw [hP]; kernel_rfl) (by rw [hP]; kernel_rfl) rfl rfl (.inl rfl) (by simp) (fun j hj => by simp [bytesE, nadd_eq]) ?_
      conv => whnf
      refine esc_b2s (el := 5) L (by rw [hP]; kernel_rfl) (by rw [hP]; kernel_rfl) (by rw [hP]; kernel_rfl) rfl rfl (.inl rfl) (by simp) (fun j hj => by simp [bytesE, nadd_eq]) ?_
      conv => whnf
      have hss : ((strL L).toList == (strL L).toList) = true := by simp
      rw [hss]
      conv => whnf
      refine dsplit (fun h => absurd rfl h) (fun _ => ?_)
      conv => whnf
      refine loop_auto (α := Nat) (ds := []) (N := 4) (fun j => [(139, sInt .i64 (j : Int))]) [] (fun _ => []) (fun j => j ≤ i) (fun j => i - j) 0 (Nat.zero_le _) ?_ fun j hj => ?_
      · (conv => whnf); (refine imp_auto hA ?_; conv => whnf); exact ⟨rfl, rfl, rfl, (by repeat' (first | exact trivial | exact rfl | apply And.intro)), (by repeat' (first | exact trivial | exact rfl | (intro _ _; exact rfl) | (intro _ hj; exact absurd hj (Nat.not_lt_zero _)) | exact Nat.le_refl _ | exact Or.inl (And.intro (fun h => h) rfl) | apply And.intro)), rfl⟩
      · conv => whnf
        refine dsplit (fun h1 => ?_) (fun h1 => ?_)
        · have hDj : D.getD (nadd 0 ((j : Nat) : Int).toNat) ⟨0, 0, 0⟩ = f j := by
            have : j < i := by omega
            rw [hD, hdl]; simp [nadd_eq, this]
          conv => whnf
          (refine drawP_intro (by rw [hP]; exact follows) (by kernel_rfl) ?_; conv => whnf)
          (repeat' (first | (refine And.intro (by (first | omega | (simp only [nadd_eq]; omega) | (simp [nadd_eq]; omega))) ?_; conv => whnf) | (refine arI64 (by omega) (by omega) ?_; conv => whnf) | (refine arU32 (by omega) (by omega) ?_; conv => whnf) | (refine arU8 (by omega) (by omega) ?_; conv => whnf)))
          rw [hDj]
          have hnj : nadd 0 ((j : Nat) : Int).toNat = j := by simp [nadd_eq]
          have hev : (decide ((f j).k = (f j).k) && (decide ((f j).t = (f j).t) && decide ((f j).w = (f j).w))) = true := by simp
          rw [hnj, hev]
          conv => whnf
          (repeat' (first | (refine And.intro (by (first | omega | (simp only [nadd_eq]; omega) | (simp [nadd_eq]; omega))) ?_; conv => whnf) | (refine arI64 (by omega) (by omega) ?_; conv => whnf) | (refine arU32 (by omega) (by omega) ?_; conv => whnf) | (refine arU8 (by omega) (by omega) ?_; conv => whnf)))
          refine ⟨j + 1, by omega, by omega, ?_⟩
          (conv => whnf); (refine imp_auto hA ?_; conv => whnf); exact ⟨rfl, rfl, rfl, (by repeat' (first | exact trivial | exact rfl | apply And.intro)), (by repeat' (first | exact trivial | exact rfl | (intro _ _; exact rfl) | (intro _ hj; exact absurd hj (Nat.not_lt_zero _)) | exact Nat.le_refl _ | exact Or.inl (And.intro (fun h => h) rfl) | apply And.intro)), rfl⟩
        · conv => whnf
          (refine call_auto hP (haw) ?_; conv => whnf); (refine ⟨⟨rfl, rfl, rfl, (by repeat' (first | exact trivial | exact rfl | (intro _ _; exact rfl) | (intro _ hj; exact absurd hj (Nat.not_lt_zero _)) | exact Nat.le_refl _ | exact Or.inl (And.intro (fun h => h) rfl) | apply And.intro)), rfl, rfl⟩, ?_⟩; conv => whnf)
          (refine fin_auto ?_; conv => whnf); exact ⟨rfl, rfl, rfl, rfl, (by repeat' (first | exact trivial | exact rfl | (intro _ _; exact rfl) | (intro _ hj; exact absurd hj (Nat.not_lt_zero _)) | exact Nat.le_refl _ | exact Or.inl (And.intro (fun h => h) rfl) | apply And.intro)), rfl⟩
set_option maxRecDepth 20000 in
theorem encodes_wrong (f : Nat → Ev) (m i0 : Nat) (hm : m ≤ 200) (him : i0 < m) (hr : ∀ i, i < i0 → isEv (f i) = true) (hw : i0 < m → isEv (f i0) = false) :
    FSpec Try.prog 4 [(0, some (.ro 3 m (evsE f)))] 1 [.l (.s 0 3 0 m 0)] fun x h k => x = sBool true ∧ k = 1 ∧ h = [] := by
  refine spec_of_ev Try.func4 ic4_eq (rs := [.t 2]) (by kernel_rfl) (by kernel_rfl) (by kernel_rfl) fun G hP hA => ?_
  have haw := evAwake_spec
  have hes := enc_spec f m i0 (by omega) (by omega) hr hw
  rw [if_neg (by omega), if_neg (by omega), if_neg (by omega)] at hes
  unfold evF ic4
  conv => whnf
  refine dsplit (fun h5 => by omega) (fun h5 => ?_)
  conv => whnf
  (refine call_auto hP (hes) ?_; conv => whnf); (refine ⟨⟨rfl, rfl, rfl, (by repeat' (first | exact trivial | exact rfl | (intro _ _; exact rfl) | (intro _ hj; exact absurd hj (Nat.not_lt_zero _)) | exact Nat.le_refl _ | exact Or.inl (And.intro (fun h => h) rfl) | apply And.intro)), rfl, rfl⟩, ?_⟩; conv => whnf)
  refine loop_auto (α := Nat) (ds := [22]) (N := 2) (fun i => [(6, .o (.l (.s 1 1 0 (encN f i).length 0))), (25, sInt .i64 (i : Int))]) [] (fun i => [(1, some (.ar 1 (encN f i).length (bytesE (encN f i))))])
    (fun i => i ≤ i0) (fun i => i0 - i) 0 (Nat.zero_le _) ?_ fun i hi => ?_
  · (conv => whnf); (refine imp_auto hA ?_; conv => whnf); exact ⟨rfl, rfl, rfl, (by repeat' (first | exact trivial | exact rfl | apply And.intro)), (by repeat' (first | exact trivial | exact rfl | (intro _ _; exact rfl) | (intro _ hj; exact absurd hj (Nat.not_lt_zero _)) | exact Nat.le_refl _ | exact Or.inl (And.intro (fun h => h) rfl) | apply And.intro)), rfl⟩
  · have hl := encN_len f i
    have hni : nadd 0 ((i : Nat) : Int).toNat = i := by simp [nadd_eq]
    conv => whnf
    refine dsplit (fun h1 => ?_) (fun h1 => ?_)
    · conv => whnf
      (refine join_plain ?_; conv => whnf)
      (repeat' (first | (refine And.intro (by (first | omega | (simp only [nadd_eq]; omega) | (simp [nadd_eq]; omega))) ?_; conv => whnf) | (refine arI64 (by omega) (by omega) ?_; conv => whnf) | (refine arU32 (by omega) (by omega) ?_; conv => whnf) | (refine arU8 (by omega) (by omega) ?_; conv => whnf)))
      (refine call_auto hP (refRight_spec (f i).k (f i).t (f i).w) ?_; conv => whnf); (refine ⟨⟨rfl, rfl, rfl, (by repeat' (first | exact trivial | exact rfl | (intro _ _; exact rfl) | (intro _ hj; exact absurd hj (Nat.not_lt_zero _)) | exact Nat.le_refl _ | exact Or.inl (And.intro (fun h => h) rfl) | apply And.intro)), rfl, rfl⟩, ?_⟩; conv => whnf)
      rw [hni]
      by_cases hii : i = i0
      · subst hii
        have hf : rightE (f i).k (f i).t (f i).w = false := hw (by omega)
        rw [hf]
        conv => whnf
        (refine call_auto hP (right_spec (f i).k (f i).t (f i).w) ?_; conv => whnf); (refine ⟨⟨rfl, rfl, rfl, (by repeat' (first | exact trivial | exact rfl | (intro _ _; exact rfl) | (intro _ hj; exact absurd hj (Nat.not_lt_zero _)) | exact Nat.le_refl _ | exact Or.inl (And.intro (fun h => h) rfl) | apply And.intro)), rfl, rfl⟩, ?_⟩; conv => whnf)
        rw [hf]
        conv => whnf
        conv => whnf
        refine dsplit (fun _ => ?_) (fun h => absurd rfl h)
        conv => whnf
        (refine call_auto hP (haw) ?_; conv => whnf); (refine ⟨⟨rfl, rfl, rfl, (by repeat' (first | exact trivial | exact rfl | (intro _ _; exact rfl) | (intro _ hj; exact absurd hj (Nat.not_lt_zero _)) | exact Nat.le_refl _ | exact Or.inl (And.intro (fun h => h) rfl) | apply And.intro)), rfl, rfl⟩, ?_⟩; conv => whnf)
        (refine fin_auto ?_; conv => whnf); exact ⟨rfl, rfl, rfl, rfl, (by repeat' (first | exact trivial | exact rfl | (intro _ _; exact rfl) | (intro _ hj; exact absurd hj (Nat.not_lt_zero _)) | exact Nat.le_refl _ | exact Or.inl (And.intro (fun h => h) rfl) | apply And.intro)), rfl⟩
      · have hf : rightE (f i).k (f i).t (f i).w = true := hr i (by omega)
        have hf2 := rightE_iff.1 hf
        have ht0 : 0 ≤ (f i).t := by omega
        have ht1 : (f i).t ≤ 31 := by omega
        have e5 : 8 * (f i).t + 5 = ((8 * (f i).t.toNat + 5 : Nat) : Int) := by omega
        have e6 : 8 * (f i).t + 6 = ((8 * (f i).t.toNat + 6 : Nat) : Int) := by omega
        have e7 : 8 * (f i).t + 7 = ((8 * (f i).t.toNat + 7 : Nat) : Int) := by omega
        have e0 : 8 * (f i).t = ((8 * (f i).t.toNat : Nat) : Int) := by omega
        rw [hf]
        conv => whnf
        (refine call_auto hP (right_spec (f i).k (f i).t (f i).w) ?_; conv => whnf); (refine ⟨⟨rfl, rfl, rfl, (by repeat' (first | exact trivial | exact rfl | (intro _ _; exact rfl) | (intro _ hj; exact absurd hj (Nat.not_lt_zero _)) | exact Nat.le_refl _ | exact Or.inl (And.intro (fun h => h) rfl) | apply And.intro)), rfl, rfl⟩, ?_⟩; conv => whnf)
        rw [hf]
        conv => whnf
        refine dsplit (fun h2 => ?_) (fun h2 => ?_)
        · conv => whnf
          (repeat' (first | (refine And.intro (by (first | omega | (simp only [nadd_eq]; omega) | (simp [nadd_eq]; omega))) ?_; conv => whnf) | (refine arI64 (by omega) (by omega) ?_; conv => whnf) | (refine arU32 (by omega) (by omega) ?_; conv => whnf) | (refine arU8 (by omega) (by omega) ?_; conv => whnf)))
          have he : encE (f i) = [8 * (f i).t.toNat] := by unfold encE; simp (disch := omega) only [if_pos]
          have hn2 : encN f (i + 1) = encN f i ++ [8 * (f i).t.toNat] := by rw [← he]; rfl
          have hlen : (encN f (i + 1)).length = (encN f i).length + 1 := by rw [hn2]; simp
          refine ⟨i + 1, by omega, by omega, ?_⟩
          rw [hlen]
          (conv => whnf); (refine imp_auto hA ?_; conv => whnf); refine ⟨rfl, rfl, rfl, (by repeat' (first | exact trivial | exact rfl | apply And.intro)), ?_, rfl⟩
          refine And.intro (And.intro rfl (And.intro rfl fun j hj => ?_)) (by repeat' (first | exact trivial | exact rfl | (intro _ _; exact rfl) | (intro _ hj; exact absurd hj (Nat.not_lt_zero _)) | exact Nat.le_refl _ | exact Or.inl (And.intro (fun h => h) rfl) | apply And.intro))
          rw [hn2]
          refine bytes_app1 _ _ _ ?_ j hj
          exact congrArg (fun z => [Value.int .u8 z]) e0
        · conv => whnf
          refine dsplit (fun h3 => ?_) (fun h3 => ?_)
          · conv => whnf
            (repeat' (first | (refine And.intro (by (first | omega | (simp only [nadd_eq]; omega) | (simp [nadd_eq]; omega))) ?_; conv => whnf) | (refine arI64 (by omega) (by omega) ?_; conv => whnf) | (refine arU32 (by omega) (by omega) ?_; conv => whnf) | (refine arU8 (by omega) (by omega) ?_; conv => whnf)))
            have he : encE (f i) = [4] := by unfold encE; simp (disch := omega) only [if_pos, if_neg]
            have hn2 : encN f (i + 1) = encN f i ++ [4] := by rw [← he]; rfl
            have hlen : (encN f (i + 1)).length = (encN f i).length + 1 := by rw [hn2]; simp
            refine ⟨i + 1, by omega, by omega, ?_⟩
            rw [hlen]
            (conv => whnf); (refine imp_auto hA ?_; conv => whnf); refine ⟨rfl, rfl, rfl, (by repeat' (first | exact trivial | exact rfl | apply And.intro)), ?_, rfl⟩
            refine And.intro (And.intro rfl (And.intro rfl fun j hj => ?_)) (by repeat' (first | exact trivial | exact rfl | (intro _ _; exact rfl) | (intro _ hj; exact absurd hj (Nat.not_lt_zero _)) | exact Nat.le_refl _ | exact Or.inl (And.intro (fun h => h) rfl) | apply And.intro))
            rw [hn2]
            refine bytes_app1 _ _ _ ?_ j hj
            exact congrArg (fun z => [Value.int .u8 z]) rfl
          · conv => whnf
            refine dsplit (fun h4 => ?_) (fun h4 => ?_)
            · conv => whnf
              (repeat' (first | (refine And.intro (by (first | omega | (simp only [nadd_eq]; omega) | (simp [nadd_eq]; omega))) ?_; conv => whnf) | (refine arI64 (by omega) (by omega) ?_; conv => whnf) | (refine arU32 (by omega) (by omega) ?_; conv => whnf) | (refine arU8 (by omega) (by omega) ?_; conv => whnf)))
              have he : encE (f i) = [8 * (f i).t.toNat + 7] := by unfold encE; simp (disch := omega) only [if_pos, if_neg]
              have hn2 : encN f (i + 1) = encN f i ++ [8 * (f i).t.toNat + 7] := by rw [← he]; rfl
              have hlen : (encN f (i + 1)).length = (encN f i).length + 1 := by rw [hn2]; simp
              refine ⟨i + 1, by omega, by omega, ?_⟩
              rw [hlen]
              (conv => whnf); (refine imp_auto hA ?_; conv => whnf); refine ⟨rfl, rfl, rfl, (by repeat' (first | exact trivial | exact rfl | apply And.intro)), ?_, rfl⟩
              refine And.intro (And.intro rfl (And.intro rfl fun j hj => ?_)) (by repeat' (first | exact trivial | exact rfl | (intro _ _; exact rfl) | (intro _ hj; exact absurd hj (Nat.not_lt_zero _)) | exact Nat.le_refl _ | exact Or.inl (And.intro (fun h => h) rfl) | apply And.intro))
              rw [hn2]
              refine bytes_app1 _ _ _ ?_ j hj
              exact congrArg (fun z => [Value.int .u8 z]) e7
            · conv => whnf
              refine dsplit (fun h5 => ?_) (fun h5 => ?_)
              · conv => whnf
                (repeat' (first | (refine And.intro (by (first | omega | (simp only [nadd_eq]; omega) | (simp [nadd_eq]; omega))) ?_; conv => whnf) | (refine arI64 (by omega) (by omega) ?_; conv => whnf) | (refine arU32 (by omega) (by omega) ?_; conv => whnf) | (refine arU8 (by omega) (by omega) ?_; conv => whnf)))
                have he : encE (f i) = [8 * (f i).t.toNat + 5] := by unfold encE; simp (disch := omega) only [if_pos, if_neg]
                have hn2 : encN f (i + 1) = encN f i ++ [8 * (f i).t.toNat + 5] := by rw [← he]; rfl
                have hlen : (encN f (i + 1)).length = (encN f i).length + 1 := by rw [hn2]; simp
                refine ⟨i + 1, by omega, by omega, ?_⟩
                rw [hlen]
                (conv => whnf); (refine imp_auto hA ?_; conv => whnf); refine ⟨rfl, rfl, rfl, (by repeat' (first | exact trivial | exact rfl | apply And.intro)), ?_, rfl⟩
                refine And.intro (And.intro rfl (And.intro rfl fun j hj => ?_)) (by repeat' (first | exact trivial | exact rfl | (intro _ _; exact rfl) | (intro _ hj; exact absurd hj (Nat.not_lt_zero _)) | exact Nat.le_refl _ | exact Or.inl (And.intro (fun h => h) rfl) | apply And.intro))
                rw [hn2]
                refine bytes_app1 _ _ _ ?_ j hj
                exact congrArg (fun z => [Value.int .u8 z]) e5
              · have ew : (f i).w = (((f i).w.toNat : Nat) : Int) := by omega
                conv => whnf
                (repeat' (first | (refine And.intro (by (first | omega | (simp only [nadd_eq]; omega) | (simp [nadd_eq]; omega))) ?_; conv => whnf) | (refine arI64 (by omega) (by omega) ?_; conv => whnf) | (refine arU32 (by omega) (by omega) ?_; conv => whnf) | (refine arU8 (by omega) (by omega) ?_; conv => whnf)))
                have he : encE (f i) = [8 * (f i).t.toNat + 6, (f i).w.toNat] := by unfold encE; simp (disch := omega) only [if_neg]
                have hn2 : encN f (i + 1) = encN f i ++ [8 * (f i).t.toNat + 6, (f i).w.toNat] := by rw [← he]; rfl
                have hlen : (encN f (i + 1)).length = (encN f i).length + 2 := by rw [hn2]; simp
                refine ⟨i + 1, by omega, by omega, ?_⟩
                rw [hlen]
                (conv => whnf); (refine imp_auto hA ?_; conv => whnf); refine ⟨rfl, rfl, rfl, (by repeat' (first | exact trivial | exact rfl | apply And.intro)), ?_, rfl⟩
                refine And.intro (And.intro rfl (And.intro rfl fun j hj => ?_)) (by repeat' (first | exact trivial | exact rfl | (intro _ _; exact rfl) | (intro _ hj; exact absurd hj (Nat.not_lt_zero _)) | exact Nat.le_refl _ | exact Or.inl (And.intro (fun h => h) rfl) | apply And.intro))
                rw [hn2]
                refine bytes_app2 _ _ _ _ ?_ ?_ j hj
                · exact congrArg (fun z => [Value.int .u8 z]) e6
                · exact congrArg (fun z => [Value.int .u8 z]) ew
    · exfalso; omega
theorem encodes_spec (f : Nat → Ev) (m : Nat) : FSpec Try.prog 4 [(0, some (.ro 3 m (evsE f)))] 1 [.l (.s 0 3 0 m 0)] fun x _ _ => x = sBool true := by
  refine FSpec.mono (Q := fun x h k => x = sBool true ∧ k = 1 ∧ h = []) ?_ fun x h k hx => hx.1
  by_cases h5 : 200 < m
  · exact encodes_big f m h5
  · obtain ⟨i0, hi0, hr, hw⟩ := first_wrong f m
    by_cases him : i0 = m
    · exact encodes_right f m i0 (by omega) him hr
    · exact encodes_wrong f m i0 (by omega) (by omega) hr hw
end Go.Proofs.Ytfkhaicghoiijaa
