/- RoundTurns: the walk, and the law. -/
import Derived.Test.YtfkhaicghoiijaaRd
namespace Go.Proofs.Ytfkhaicghoiijaa
open Go Go.Sx

theorem cnt_none {f : Nat → Bool} : ∀ {n}, (∀ i, i < n → f i = false) → cnt f n = 0
  | 0, _ => rfl
  | n + 1, h => by simp only [cnt, h n (Nat.lt_succ_self n), cnt_none fun i hi => h i (Nat.lt_succ_of_lt hi)]; rfl
theorem cnt_some {f : Nat → Bool} {n i : Nat} (hi : i < n) (h : f i = true) : 0 < cnt f n := by
  rcases Nat.eq_zero_or_pos (cnt f n) with e | e
  · rw [cnt_zero e i hi] at h; cases h
  · exact e
/-- Who is owed a pick behind i picks by turns. -/
def owt (n : Nat) (fr : Int) (i t : Nat) : Bool := decide ((i : Int) % n ≤ ((t : Int) - fr) % n)
def allT : Nat → Bool := fun _ => true
theorem mod_sub (a b : Int) (n : Int) : (a % n - b) % n = (a - b) % n := by
  rw [Int.emod_def a n, show a - n * (a / n) - b = (a - b) - n * (a / n) by omega, Int.sub_mul_emod_self_left]
theorem pick_at {n i : Nat} {fr : Int} (hn : 1 ≤ n) : (((fr + i) % n) - fr) % (n : Int) = (i : Int) % n := by
  rw [mod_sub]; congr 1; omega
theorem pick_of {n i j : Nat} {fr : Int} (hn : 1 ≤ n) (hj : j < n) (h : ((j : Int) - fr) % n = (i : Int) % n) : (j : Int) = (fr + i) % n := by
  have h1 : ((j : Int)) % n = j := Int.emod_eq_of_lt (by omega) (by omega)
  have h2 : (j : Int) % n = (fr + i) % n := by
    have : (j : Int) = ((j : Int) - fr) + fr := by omega
    rw [this, Int.add_emod, h, ← Int.add_emod]; congr 1; omega
  omega
theorem turn_step {n i : Nat} {fr : Int} (hn : 1 ≤ n) :
    (∀ j, j < n → after n ((fr + i) % n) n allT (owt n fr i) j = owt n fr (i + 1) j) ∧ ended n ((fr + i) % n) n allT (owt n fr i) = decide (((i : Int) + 1) % n = 0) ∧
      ((i / n : Nat) : Int) + tb (ended n ((fr + i) % n) n allT (owt n fr i)) = (((i + 1) / n : Nat) : Int) := by
  have hp0 : 0 ≤ (fr + i) % (n : Int) := Int.emod_nonneg _ (by omega)
  have hp1 : (fr + i) % (n : Int) < n := Int.emod_lt_of_pos _ (by omega)
  have hi0 : 0 ≤ (i : Int) % n := Int.emod_nonneg _ (by omega)
  have hi1 : (i : Int) % n < n := Int.emod_lt_of_pos _ (by omega)
  have hk : ∀ j, j < n → kept ((fr + i) % n) n allT (owt n fr i) j = decide ((i : Int) % n < ((j : Int) - fr) % n) := fun j hj => by
    have hjn : (j : Int) < n := by omega
    simp only [kept, owt, isb, allT, hjn, decide_true, Bool.and_true]
    by_cases e : (j : Int) = (fr + i) % n
    · have : ((j : Int) - fr) % n = (i : Int) % n := by rw [e]; exact pick_at hn
      simp [e, pick_at hn]
    · have : ((j : Int) - fr) % n ≠ (i : Int) % n := fun h => e (pick_of hn hj h)
      simp only [e, decide_false, Bool.not_false, Bool.and_true]
      congr 1; apply propext; omega
  have how : 0 < cnt (owt n fr i) n := by
    refine cnt_some (i := ((fr + i) % (n : Int)).toNat) (by omega) ?_
    simp only [owt, decide_eq_true_eq]
    rw [show (((fr + i) % (n : Int)).toNat : Int) = (fr + i) % n by omega, pick_at hn]; exact Int.le_refl _
  have hq : (i : Int) = n * ((i : Int) / n) + (i : Int) % n := (Int.mul_ediv_add_emod _ _).symm
  have hdi : ((i / n : Nat) : Int) = (i : Int) / n := by simp
  have hdj : (((i + 1) / n : Nat) : Int) = ((i : Int) + 1) / n := by simp
  by_cases hl : (i : Int) % n = n - 1
  · have e1 : (i : Int) + 1 = n * ((i : Int) / n + 1) := by rw [Int.mul_add]; omega
    have hm : ((i : Int) + 1) % n = 0 := by rw [e1]; simp
    have hd : ((i : Int) + 1) / n = (i : Int) / n + 1 := by rw [e1]; exact Int.mul_ediv_cancel_left _ (by omega)
    have hz : cnt (kept ((fr + i) % n) n allT (owt n fr i)) n = 0 := cnt_none fun j hj => by
      rw [hk j hj]
      have := Int.emod_lt_of_pos ((j : Int) - fr) (show (0 : Int) < n by omega)
      simp; omega
    have he : ended n ((fr + i) % n) n allT (owt n fr i) = true := by simp [ended, hz, how]
    refine ⟨fun j hj => ?_, by rw [he]; simp [hm], by rw [he, hdi, hdj, hd]; rfl⟩
    have := Int.emod_nonneg ((j : Int) - fr) (show (n : Int) ≠ 0 by omega)
    have hm' : (((i + 1 : Nat)) : Int) % n = 0 := by rw [← hm]; simp
    simp only [after, hz, if_true, isb, allT, owt, Bool.and_true, hm']
    rw [decide_eq_true (show (j : Int) < n by omega), decide_eq_true this]
  · have e1 : (i : Int) + 1 = n * ((i : Int) / n) + ((i : Int) % n + 1) := by omega
    have hm : ((i : Int) + 1) % n = (i : Int) % n + 1 := by
      rw [e1, Int.mul_add_emod_self_left]
      exact Int.emod_eq_of_lt (by omega) (by omega)
    have hd : ((i : Int) + 1) / n = (i : Int) / n := by
      rw [e1, Int.mul_add_ediv_left _ _ (by omega), Int.ediv_eq_zero_of_lt (a := (i : Int) % n + 1) (by omega) (by omega)]; omega
    have hw : 0 < cnt (kept ((fr + i) % n) n allT (owt n fr i)) n := by
      have g0 : 0 ≤ (fr + ((n - 1 : Nat) : Int)) % (n : Int) := Int.emod_nonneg _ (by omega)
      have g1 : (fr + ((n - 1 : Nat) : Int)) % (n : Int) < n := Int.emod_lt_of_pos _ (by omega)
      refine cnt_some (i := ((fr + ((n - 1 : Nat) : Int)) % (n : Int)).toNat) (by omega) ?_
      rw [hk _ (by omega), show (((fr + ((n - 1 : Nat) : Int)) % (n : Int)).toNat : Int) = (fr + ((n - 1 : Nat) : Int)) % n by omega, pick_at hn, Int.emod_eq_of_lt (a := ((n - 1 : Nat) : Int)) (by omega) (by omega)]
      simp; omega
    have hz : cnt (kept ((fr + i) % n) n allT (owt n fr i)) n ≠ 0 := by omega
    have he : ended n ((fr + i) % n) n allT (owt n fr i) = false := by simp [ended, hz]
    refine ⟨fun j hj => ?_, by rw [he]; simp [hm]; omega, by rw [he, hdi, hdj, hd]; simp [tb]⟩
    have hm' : (((i + 1 : Nat)) : Int) % n = (i : Int) % n + 1 := by rw [← hm]; simp
    simp only [after, hz, if_false, owt, hm']
    rw [hk j hj]
    congr 1

theorem turns_spec (th ev fr : Int) (h0 : 0 ≤ th) (h1 : th ≤ 255) (h2 : 0 ≤ ev) (h3 : ev ≤ 255) (h4 : 0 ≤ fr) (h5 : fr ≤ 255) :
    FSpec Try.prog 7 [] 0 [.l (.v (.int .u8 th)), .l (.v (.int .u8 ev)), .l (.v (.int .u8 fr))] fun x h m => x = sBool true ∧ m = 0 ∧ h = [] := by
  refine spec_of_ev Try.func7 ic7_eq (rs := [.t 6]) (by kernel_rfl) (by kernel_rfl) (by kernel_rfl) fun G hP hA => ?_
  obtain ⟨n, hn, hn1, hn2⟩ : ∃ n : Nat, (n : Int) = 1 + th % 64 ∧ 1 ≤ n ∧ n ≤ 64 := ⟨(1 + th % 64).toNat, by omega, by omega, by omega⟩
  unfold evF ic7
  conv => whnf
  refine arI64 (by omega) (by omega) ?_
  conv => whnf
  refine remI (by omega) (by omega) ?_
  conv => whnf
  refine arI64 (by omega) (by omega) ?_
  rw [← hn]
  conv => whnf
  refine ⟨⟨rfl, by omega, by omega, by decide⟩, ?_⟩
  conv => whnf
  refine loopP_intro (α := Nat) (fun i => [(1, .o (.l (.v (.int .u8 ev)))), (2, .o (.l (.v (.int .u8 fr)))), (7, sInt .i64 n), (8, .o (.l (.s 0 1 0 n 0))), (19, sInt .i64 n), (20, sInt .i64 i)])
    (fun i => [(0, some (.ar 1 n fun j => [.bool (decide (j < i))]))]) (fun _ => 1) (fun i => i ≤ n) (fun i => n - i) 0 (Nat.zero_le _) ?_ fun i hi => ?_
  · refine imp_intro hA [0] rfl rfl rfl ⟨rfl, rfl, rfl, rfl, rfl, rfl, trivial⟩ ?_ rfl
    exact And.intro (And.intro rfl (And.intro rfl fun j hj => by simp)) trivial
  · conv => whnf
    refine dsplit (fun h6 => ?_) (fun h6 => ?_)
    · conv => whnf
      refine ⟨by omega, ?_⟩
      conv => whnf
      refine ⟨by simp [nadd_eq]; omega, ?_⟩
      conv => whnf
      refine arI64 (by omega) (by omega) ?_
      conv => whnf
      refine ⟨i + 1, by omega, by omega, imp_intro hA [0] rfl rfl rfl ⟨rfl, rfl, rfl, rfl, rfl, rfl, trivial⟩ ?_ rfl⟩
      refine And.intro (And.intro rfl (And.intro rfl fun j hj => ?_)) trivial
      by_cases e : j = i
      · simp [mrgL, mrg, setMany, setL, nadd_eq, e]
      · have : (j < i + 1) = (j < i) := by apply propext; omega
        simp [mrgL, mrg, setMany, setL, nadd_eq, e, this]
    · have hin : i = n := by omega
      have hw := new_spec n
      rw [show (min (max (n : Int) 0) 64).toNat = n by omega, ← hP] at hw
      have hz : cnt (fun _ => false) n = 0 := cnt_none fun _ _ => rfl
      have ht := take_spec n (fun _ => false) 0 (-1) n allT (by omega) (by omega) (by omega)
      have he : ended n (-1) n allT (fun _ => false) = false := by simp [ended, hz]
      rw [hz, he, ← hP] at ht
      have hka : cnt (kept (-1) n allT (fun _ => false)) n = 0 := cnt_none fun _ _ => by simp [kept]
      have hf0 : ∀ j, j < n → after n (-1) n allT (fun _ => false) j = owt n fr 0 j := fun j hj => by
        have := Int.emod_nonneg ((j : Int) - fr) (show (n : Int) ≠ 0 by omega)
        have h0' : (((0 : Nat) : Int)) % n = 0 := by simp
        simp only [after, hka, if_true, isb, allT, owt, Bool.and_true, h0']
        rw [decide_eq_true (show (j : Int) < n by omega), decide_eq_true this]
      rw [show cnt (after n (-1) n allT (fun _ => false)) n = cnt (owt n fr 0) n from cnt_congr hf0] at ht
      conv => whnf
      refine callP_spec hw [] rfl rfl rfl trivial rfl ?_
      rintro x h' n' ⟨rfl, rfl, rfl⟩
      refine ⟨rfl, ?_⟩
      conv => whnf
      refine callP_spec ht [1, 2, 0] rfl rfl rfl
        (And.intro rfl (And.intro (And.intro rfl (And.intro rfl fun _ _ => rfl)) (And.intro (And.intro rfl (And.intro (Nat.le_refl _) fun j hj => by simp [allT]; omega)) trivial))) rfl ?_
      rintro x h' n' ⟨rfl, rfl, rfl⟩
      refine ⟨rfl, ?_⟩
      conv => whnf
      refine arI64 (by omega) (by omega) ?_
      conv => whnf
      refine loopP_intro (α := Nat) (fun i => [(2, .o (.l (.v (.int .u8 fr)))), (7, sInt .i64 n), (8, .o (.l (.s 0 1 0 n 0))), (10, .o (.l (.p 1 0 0 0))), (35, sInt .i64 ev), (36, sInt .i64 i)])
        (fun i => [(1, some (.st [.s 2 1 0 n 0, .v (.int .i64 (cnt (owt n fr i) n)), .v (.int .i64 ((i / n : Nat) : Int))])), (2, some (.ar 1 n fun j => [.bool (owt n fr i j)])), (0, some (.ar 1 n fun j => [.bool true]))]) (fun _ => 3) (fun i => (i : Int) ≤ ev) (fun i => ev.toNat - i) 0 (by simpa using h2) ?_ fun i hi => ?_
      · refine imp_intro hA [0, 1, 2] rfl rfl rfl ⟨rfl, rfl, rfl, rfl, rfl, rfl, trivial⟩ ?_ rfl
        refine And.intro ?_ (And.intro (And.intro rfl (And.intro rfl fun j hj => by simp only [hf0 j hj])) (And.intro (And.intro rfl (And.intro rfl fun j hj => by simp; omega)) trivial))
        simp [tb]; rfl
      · obtain ⟨hs1, hs2, hs3⟩ := turn_step (n := n) (i := i) (fr := fr) hn1
        have hcl := cnt_le (owt n fr i) n
        have hil : ((i / n : Nat) : Int) ≤ i := Int.ofNat_le.2 (Nat.div_le_self _ _)
        have hil1 : ((i / n : Nat) : Int) ≤ 1000000 := Int.le_trans hil (by omega)
        have ht2 := take_spec n (owt n fr i) ((i / n : Nat) : Int) ((fr + i) % n) n allT hn2 (Int.natCast_nonneg _) hil1
        rw [hs3, hs2, show cnt (after n ((fr + i) % n) n allT (owt n fr i)) n = cnt (owt n fr (i + 1)) n from cnt_congr hs1, ← hP] at ht2
        have hc2 := count_spec n (after n ((fr + i) % n) n allT (owt n fr i)) (cnt (owt n fr (i + 1)) n) (((i + 1) / n : Nat) : Int)
        rw [← hP] at hc2
        conv => whnf
        refine dsplit (fun h7 => ?_) (fun h7 => ?_)
        · conv => whnf
          refine drawP_intro (by rw [hP]; exact follows) (by kernel_rfl) ?_
          conv => whnf
          refine arI64 (by omega) (by omega) ?_
          conv => whnf
          refine arI64 (by omega) (by omega) ?_
          conv => whnf
          refine remI (by omega) (by omega) ?_
          conv => whnf
          refine callD_spec ht2 [1, 2, 0] rfl rfl rfl
            (And.intro rfl (And.intro (And.intro rfl (And.intro rfl fun _ _ => rfl)) (And.intro (And.intro rfl (And.intro (Nat.le_refl _) fun _ _ => rfl)) trivial))) rfl rfl ?_
          conv => whnf
          refine arI64 (by omega) (by omega) ?_
          conv => whnf
          refine remI (by omega) (by omega) ?_
          conv => whnf
          refine bsplit (fun h8 => ?_) (fun h8 => ?_)
          · exfalso; simp [xb] at h8
          conv => whnf
          refine callD_spec hc2 [1, 2] rfl rfl rfl
            (And.intro rfl (And.intro (And.intro rfl (And.intro rfl fun _ _ => rfl)) trivial)) rfl rfl ?_
          conv => whnf
          refine arI64 (by omega) (by omega) ?_
          conv => whnf
          refine quoI (by omega) (by omega) (by simp [IntKind.max, IntKind.signed, IntKind.bits]; omega) ?_
          conv => whnf
          refine bsplit (fun h9 => ?_) (fun h9 => ?_)
          · exfalso; simp at h9
          conv => whnf
          refine arI64 (by omega) (by omega) ?_
          conv => whnf
          refine ⟨i + 1, by omega, by omega, imp_intro hA [0, 1, 2] rfl rfl rfl ⟨rfl, rfl, rfl, rfl, rfl, rfl, trivial⟩ ?_ rfl⟩
          exact And.intro rfl (And.intro (And.intro rfl (And.intro rfl fun j hj => by simp only [hs1 j hj])) (And.intro (And.intro rfl (And.intro rfl fun _ _ => rfl)) trivial))
        · have haw := awake_spec
          rw [← hP] at haw
          conv => whnf
          refine call_det haw [] rfl rfl rfl trivial rfl rfl ?_
          conv => whnf
          exact finP_intro [] (sBool true) [] 0 rfl ⟨rfl, rfl, rfl⟩ rfl rfl rfl trivial rfl
end Go.Proofs.Ytfkhaicghoiijaa
