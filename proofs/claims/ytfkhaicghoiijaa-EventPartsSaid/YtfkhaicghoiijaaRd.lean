/- The rounds' counter: what New, strike, the closure of Take, and Count come to. Each for the memory and the arguments that it names. -/
import Derived.Test.YtfkhaicghoiijaaSxC
import Derived.Test.YtfkhaicghoiijaaSxT
namespace Go.Proofs.Ytfkhaicghoiijaa
open Go Go.Sx

def cntH (n : Nat) (ow : Nat → Bool) (left count : Int) : Heap := [(0, some (.st [.s 1 1 0 n 0, .v (.int .i64 left), .v (.int .i64 count)])), (1, some (.ar 1 n fun i => [.bool (ow i)]))]
theorem follows : Try.prog.follows .mixedOrders = true := by kernel_rfl

theorem new_spec (n : Int) :
    FSpec Try.prog 15 [] 0 [.l (.v (.int .i64 n))] fun x h m => x = .o (.l (.p 0 0 0 0)) ∧ m = 2 ∧ h = cntH (min (max n 0) 64).toNat (fun _ => false) 0 0 := by
  refine spec_of_ev Try.func15 ic15_eq (rs := [.t 2]) (by kernel_rfl) (by kernel_rfl) (by kernel_rfl) fun G hP hA => ?_
  unfold evF ic15
  conv => whnf
  refine ⟨⟨rfl, by omega, by omega, by decide⟩, ?_⟩
  conv => whnf
  refine finP_intro [1, 0] (.o (.l (.p 0 0 0 0))) _ 2 rfl ⟨rfl, rfl, rfl⟩ rfl rfl rfl ?_ rfl
  refine And.intro rfl (And.intro (And.intro rfl (And.intro rfl (fun i hi => rfl))) True.intro)

theorem count_spec (n : Nat) (ow : Nat → Bool) (left count : Int) :
    FSpec Try.prog 19 (cntH n ow left count) 2 [.l (.p 0 0 0 0)] fun x h m => x = sInt .i64 count ∧ m = 2 ∧ h = cntH n ow left count := by
  refine spec_of_ev Try.func19 ic19_eq (rs := [.t 2]) (by kernel_rfl) (by kernel_rfl) (by kernel_rfl) fun G hP hA => ?_
  unfold evF ic19 cntH
  conv => whnf
  refine finP_intro [0, 1] (sInt .i64 count) _ 2 rfl ⟨rfl, rfl, rfl⟩ rfl rfl rfl ?_ rfl
  refine And.intro rfl (And.intro (And.intro rfl (And.intro rfl (fun i hi => rfl))) True.intro)

def busyH (nb : Nat) (busy : Nat → Bool) : Heap := [(0, some (.st [.s 1 1 0 nb 0])), (1, some (.ro 1 nb fun i => [.bool (busy i)]))]
theorem is_spec (nb : Nat) (busy : Nat → Bool) (t : Int) (h0 : 0 ≤ t) :
    FSpec Try.prog 22 (busyH nb busy) 2 [.l (.v (.int .i64 t)), .l (.p 0 0 0 0)] fun x h m => x = sBool (decide (t < nb) && busy t.toNat) ∧ m = 2 ∧ h = [(0, some (.st [.s 1 1 0 nb 0]))] := by
  refine spec_of_ev Try.func22 ic22_eq (rs := [.t 3]) (by kernel_rfl) (by kernel_rfl) (by kernel_rfl) fun G hP hA => ?_
  unfold evF ic22 busyH
  conv => whnf
  refine dsplit (fun h => ?_) (fun h => ?_)
  · conv => whnf
    refine ⟨by omega, ?_⟩
    conv => whnf
    refine ⟨by simp [nadd_eq]; omega, ?_⟩
    conv => whnf
    refine finP_intro [0, 1] (sBool (busy t.toNat)) _ 2 rfl ⟨by simp [h], rfl, rfl⟩ rfl rfl (by simp [nadd_eq, SV.ren, AV.ren, LV.ren, sBool]; rfl) ?_ rfl
    exact And.intro rfl True.intro
  · conv => whnf
    refine finP_intro [0, 1] (sBool false) _ 2 rfl ⟨by simp [h], rfl, rfl⟩ rfl rfl rfl ?_ rfl
    exact And.intro rfl True.intro

theorem strike_spec (n : Nat) (ow : Nat → Bool) (left count t : Int) (h0 : 0 ≤ t) (h1 : t < n) (hl0 : 0 ≤ left) (hl1 : left ≤ 1000) :
    FSpec Try.prog 23 (cntH n ow left count) 2 [.l (.p 0 0 0 0), .l (.v (.int .i64 t))] fun x h m => x = .t [] ∧ m = 2 ∧ h = cntH n (fun i => if i = t.toNat then false else ow i) (if ow t.toNat then left - 1 else left) count := by
  refine spec_of_ev Try.func23 ic23_eq (rs := []) (by kernel_rfl) (by kernel_rfl) (by kernel_rfl) fun G hP hA => ?_
  unfold evF ic23 cntH
  conv => whnf
  refine ⟨by omega, ?_⟩
  conv => whnf
  refine ⟨by simp [nadd_eq]; omega, ?_⟩
  conv => whnf
  refine bsplit (fun h => ?_) (fun h => ?_)
  · conv => whnf
    refine ⟨by omega, ?_⟩
    conv => whnf
    refine ⟨by simp [nadd_eq]; omega, ?_⟩
    conv => whnf
    refine arI64 (by omega) (by omega) ?_
    conv => whnf
    have h' : ow t.toNat = true := by simpa [nadd_eq] using h
    refine finP_intro [0, 1] (.t []) _ 2 rfl ⟨rfl, rfl, rfl⟩ rfl rfl rfl ?_ rfl
    refine And.intro ?_ (And.intro (And.intro rfl (And.intro rfl (fun i hi => ?_))) True.intro)
    · simp only [h', if_true]; exact rfl
    · simp [mrgL, mrg, setMany, setL, nadd_eq]
  · conv => whnf
    have h' : ow t.toNat = false := by simpa [nadd_eq] using h
    refine finP_intro [0, 1] (.t []) _ 2 rfl ⟨rfl, rfl, rfl⟩ rfl rfl rfl ?_ rfl
    refine And.intro ?_ (And.intro (And.intro rfl (And.intro rfl (fun i hi => ?_))) True.intro)
    · simp only [h', Bool.false_eq_true, if_false]; exact rfl
    · by_cases hi' : i = t.toNat
      · subst hi'; simp [h']
      · simp [hi']
def takeH (n : Nat) (ow : Nat → Bool) (left count : Int) (nb : Nat) (busy : Nat → Bool) : Heap :=
  [(0, some (.st [.s 1 1 0 n 0, .v (.int .i64 left), .v (.int .i64 count)])), (1, some (.ar 1 n fun i => [.bool (ow i)])), (2, some (.ro 1 nb fun i => [.bool (busy i)]))]
def cnt (f : Nat → Bool) : Nat → Nat
  | 0 => 0
  | n + 1 => cnt f n + if f n then 1 else 0
theorem cnt_le (f : Nat → Bool) : ∀ n, cnt f n ≤ n
  | 0 => Nat.le_refl _
  | n + 1 => by have := cnt_le f n; simp only [cnt]; split <;> omega
theorem cnt_congr {f g : Nat → Bool} : ∀ {n}, (∀ i, i < n → f i = g i) → cnt f n = cnt g n
  | 0, _ => rfl
  | n + 1, h => by simp only [cnt, h n (Nat.lt_succ_self n), cnt_congr fun i hi => h i (Nat.lt_succ_of_lt hi)]
theorem cnt_zero {f : Nat → Bool} : ∀ {n}, cnt f n = 0 → ∀ i, i < n → f i = false
  | n + 1, h, i, hi => by
    simp only [cnt] at h
    by_cases e : i = n
    · subst e
      cases hf : f i with
      | false => rfl
      | true => simp [hf] at h
    · exact cnt_zero (n := n) (by omega) i (by omega)
theorem cnt_set (f : Nat → Bool) (b : Bool) (k : Nat) : ∀ n, k < n → cnt (fun t => if t = k then b else f t) n + (if f k then 1 else 0) = cnt f n + (if b then 1 else 0)
  | n + 1, h => by
    simp only [cnt]
    by_cases e : n = k
    · subst e
      have : cnt (fun t => if t = n then b else f t) n = cnt f n := cnt_congr fun i hi => by simp [Nat.ne_of_lt hi]
      simp only [this, if_true]; omega
    · have := cnt_set f b k n (by omega)
      simp only [if_neg e]; omega
def isb (nb : Nat) (busy : Nat → Bool) (t : Nat) : Bool := decide ((t : Int) < nb) && busy t
def kept (picked : Int) (nb : Nat) (busy : Nat → Bool) (ow : Nat → Bool) (t : Nat) : Bool := ow t && (!decide ((t : Int) = picked) && isb nb busy t)
def st1 (picked : Int) (nb : Nat) (busy ow : Nat → Bool) (i t : Nat) : Bool := if t < i then kept picked nb busy ow t else ow t
def st2 (nb : Nat) (busy f : Nat → Bool) (i t : Nat) : Bool := if t < i then isb nb busy t else f t
def ended (n : Nat) (picked : Int) (nb : Nat) (busy ow : Nat → Bool) : Bool := decide (0 < cnt ow n) && decide (cnt (kept picked nb busy ow) n = 0)
def tb (b : Bool) : Int := if b then 1 else 0
def after (n : Nat) (picked : Int) (nb : Nat) (busy ow : Nat → Bool) (t : Nat) : Bool := if cnt (kept picked nb busy ow) n = 0 then isb nb busy t else kept picked nb busy ow t
def takeH4 (n : Nat) (ow : Nat → Bool) (left count : Int) (nb : Nat) (busy : Nat → Bool) : Heap := (3, some (.st [.s 2 1 0 nb 0])) :: takeH n ow left count nb busy
theorem take_spec (n : Nat) (ow : Nat → Bool) (count picked : Int) (nb : Nat) (busy : Nat → Bool) (hn : n ≤ 64) (hc0 : 0 ≤ count) (hc1 : count ≤ 1000000) :
    FSpec Try.prog 18 (takeH n ow (cnt ow n) count nb busy) 3 [.l (.p 0 0 0 0), .l (.s 2 1 0 nb 0), .l (.v (.int .i64 picked))] fun x h m =>
      x = sBool (ended n picked nb busy ow) ∧ m = 3 ∧ h = cntH n (after n picked nb busy ow) (cnt (after n picked nb busy ow) n) (count + tb (ended n picked nb busy ow)) := by
  have hk0 := cnt_le ow n
  have hk1 := cnt_le (kept picked nb busy ow) n
  refine spec_of_ev Try.func18 ic18_eq (rs := [.t 6]) (by kernel_rfl) (by kernel_rfl) (by kernel_rfl) fun G hP hA => ?_
  unfold evF ic18 takeH
  conv => whnf
  refine join_at (α := Unit) (fun _ => [(0, .o (.l (.p 0 0 0 0))), (7, .o (.l (.c 22 [3]))), (8, sBool (ended n picked nb busy ow))])
    (fun _ => takeH4 n (kept picked nb busy ow) (cnt (kept picked nb busy ow) n) (count + tb (ended n picked nb busy ow)) nb busy) (fun _ => 4) (fun _ => True) ?_ fun _ _ => ?_
  · conv => whnf
    refine dsplit (fun h => ?_) (fun h => ?_)
    · conv => whnf
      refine loopP_intro (α := Nat) (fun i => [(0, .o (.l (.p 0 0 0 0))), (2, .o (.l (.v (.int .i64 picked)))), (7, .o (.l (.c 22 [3]))), (8, sBool false), (21, sInt .i64 n), (22, sInt .i64 i)])
        (fun i => takeH4 n (st1 picked nb busy ow i) (cnt (st1 picked nb busy ow i) n) count nb busy) (fun _ => 4) (fun i => i ≤ n) (fun i => n - i) 0 (Nat.zero_le _) ?_ fun i hi => ?_
      · refine imp_intro hA [0, 1, 2, 3] rfl rfl rfl ?_ ?_ rfl
        · exact ⟨rfl, rfl, rfl, rfl, rfl, rfl, trivial⟩
        · refine ⟨rfl, ?_, And.intro rfl (And.intro rfl fun j hj => by simp [st1]), And.intro rfl (And.intro (Nat.le_refl _) fun i hi => rfl), trivial⟩
          have : cnt (st1 picked nb busy ow 0) n = cnt ow n := cnt_congr fun j hj => by simp [st1]
          rw [this]; rfl
      · have hki := cnt_le (st1 picked nb busy ow i) n
        unfold takeH4 takeH
        conv => whnf
        refine dsplit (fun h1 => ?_) (fun h1 => ?_)
        · have hstep : ∀ j, st1 picked nb busy ow (i + 1) j = if j = i then kept picked nb busy ow i else st1 picked nb busy ow i j := fun j => by
            simp only [st1]
            by_cases e : j = i
            · subst e; simp
            · have : (j < i + 1) = (j < i) := by apply propext; omega
              simp [e, this]
          have hii : st1 picked nb busy ow i i = ow i := by simp [st1]
          have hcnt := cnt_set (st1 picked nb busy ow i) (kept picked nb busy ow i) i n (by omega)
          rw [show (fun t => if t = i then kept picked nb busy ow i else st1 picked nb busy ow i t) = st1 picked nb busy ow (i + 1) from funext fun j => (hstep j).symm, hii] at hcnt
          have hl1 := cnt_le (st1 picked nb busy ow (i + 1)) n
          conv => whnf
          refine join_at (α := Unit) (fun _ => [(0, .o (.l (.p 0 0 0 0))), (2, .o (.l (.v (.int .i64 picked)))), (7, .o (.l (.c 22 [3]))), (8, sBool false), (21, sInt .i64 n), (22, sInt .i64 i)])
            (fun _ => takeH4 n (st1 picked nb busy ow (i + 1)) (cnt (st1 picked nb busy ow (i + 1)) n) count nb busy) (fun _ => 4) (fun _ => True) ?_ fun _ _ => ?_
          · -- struck
            have struck : kept picked nb busy ow i = false → ∀ (K : Prop), (∀ (f : Nat → Bool) (c : Int), (∀ j, j < n → f j = st1 picked nb busy ow (i + 1) j) → c = cnt (st1 picked nb busy ow (i + 1)) n → K) → K := fun _ K hK => hK _ _ (fun _ _ => rfl) rfl
            have hs1 : kept picked nb busy ow i = false → ∀ j, j < n → (if j = (i : Int).toNat then false else st1 picked nb busy ow i j) = st1 picked nb busy ow (i + 1) j := fun hf j _ => by
              rw [hstep, hf]; simp
            have hs2 : kept picked nb busy ow i = false → (if st1 picked nb busy ow i (i : Int).toNat then (cnt (st1 picked nb busy ow i) n : Int) - 1 else (cnt (st1 picked nb busy ow i) n : Int)) = (cnt (st1 picked nb busy ow (i + 1)) n : Int) := fun hf => by
              rw [hf] at hcnt
              simp only [Int.toNat_natCast, hii]
              cases ho : ow i <;> simp [ho] at hcnt ⊢ <;> omega
            conv => whnf
            refine dsplit (fun h2 => ?_) (fun h2 => ?_)
            · have hf : kept picked nb busy ow i = false := by simp [kept, h2]
              conv => whnf
              have hsp := strike_spec n (st1 picked nb busy ow i) (cnt (st1 picked nb busy ow i) n) count i (by omega) (by omega) (by omega) (by omega)
              rw [← hP] at hsp
              refine callP_spec hsp [0, 1] rfl rfl rfl
                (And.intro rfl (And.intro (And.intro rfl (And.intro rfl fun _ _ => rfl)) trivial)) rfl ?_
              rintro x h' n' ⟨rfl, rfl, rfl⟩
              refine ⟨rfl, ?_⟩
              conv => whnf
              refine ⟨(), trivial, imp_intro hA [0, 1, 2, 3] rfl rfl rfl ⟨rfl, rfl, rfl, rfl, rfl, rfl, trivial⟩ ?_ rfl⟩
              rw [← hs2 hf]
              exact ⟨rfl, rfl, And.intro rfl (And.intro rfl fun j hj => by simp only [hs1 hf j hj]), And.intro rfl (And.intro (Nat.le_refl _) fun i hi => rfl), trivial⟩
            · conv => whnf
              have hsp := is_spec nb busy i (by omega)
              rw [← hP] at hsp
              refine callP_spec hsp [3, 2] rfl rfl rfl
                (And.intro rfl (And.intro (And.intro rfl (And.intro (Nat.le_refl _) fun _ _ => rfl)) trivial)) rfl ?_
              rintro x h' n' ⟨rfl, rfl, rfl⟩
              refine ⟨rfl, ?_⟩
              conv => whnf
              refine bsplit (fun h3 => ?_) (fun h3 => ?_)
              · have h3' : isb nb busy i = false := by
                  have h4 : nb ≤ i ∨ busy i = false := by simpa using h3
                  simp only [isb]
                  rcases h4 with h4 | h4
                  · simp [show ¬ ((i : Int) < nb) by omega]
                  · simp [h4]
                have hf : kept picked nb busy ow i = false := by simp [kept, h3']
                conv => whnf
                have hsp := strike_spec n (st1 picked nb busy ow i) (cnt (st1 picked nb busy ow i) n) count i (by omega) (by omega) (by omega) (by omega)
                rw [← hP] at hsp
                refine callP_spec hsp [0, 1] rfl rfl rfl
                  (And.intro rfl (And.intro (And.intro rfl (And.intro rfl fun _ _ => rfl)) trivial)) rfl ?_
                rintro x h' n' ⟨rfl, rfl, rfl⟩
                refine ⟨rfl, ?_⟩
                conv => whnf
                refine ⟨(), trivial, imp_intro hA [0, 1, 2, 3] rfl rfl rfl ⟨rfl, rfl, rfl, rfl, rfl, rfl, trivial⟩ ?_ rfl⟩
                rw [← hs2 hf]
                exact ⟨rfl, rfl, And.intro rfl (And.intro rfl fun j hj => by simp only [hs1 hf j hj]), And.intro rfl (And.intro (Nat.le_refl _) fun i hi => rfl), trivial⟩
              · have h3' : isb nb busy i = true := by simpa [isb] using h3
                have hk : ∀ j, st1 picked nb busy ow (i + 1) j = st1 picked nb busy ow i j := fun j => by
                  rw [hstep]
                  by_cases e : j = i
                  · subst e; simp [hii, kept, h3', h2]
                  · simp [e]
                conv => whnf
                refine ⟨(), trivial, imp_intro hA [0, 1, 2, 3] rfl rfl rfl ⟨rfl, rfl, rfl, rfl, rfl, rfl, trivial⟩ ?_ rfl⟩
                rw [show st1 picked nb busy ow (i + 1) = st1 picked nb busy ow i from funext hk]
                exact ⟨rfl, rfl, And.intro rfl (And.intro rfl fun j hj => rfl), And.intro rfl (And.intro (Nat.le_refl _) fun i hi => rfl), trivial⟩
          · conv => whnf
            refine arI64 (by omega) (by omega) ?_
            conv => whnf
            refine ⟨i + 1, by omega, by omega, imp_intro hA [0, 1, 2, 3] rfl rfl rfl ⟨rfl, rfl, rfl, rfl, rfl, rfl, trivial⟩ ?_ rfl⟩
            exact ⟨rfl, rfl, And.intro rfl (And.intro rfl fun j hj => rfl), And.intro rfl (And.intro (Nat.le_refl _) fun i hi => rfl), trivial⟩
        · have he : ∀ j, j < n → st1 picked nb busy ow i j = kept picked nb busy ow j := fun j hj => by simp [st1, show j < i by omega]
          have hec : cnt (st1 picked nb busy ow i) n = cnt (kept picked nb busy ow) n := cnt_congr he
          conv => whnf
          rw [hec]
          refine dsplit (fun h2 => ?_) (fun h2 => ?_)
          · have hen : ended n picked nb busy ow = true := by simp [ended]; omega
            conv => whnf
            refine arI64 (by omega) (by omega) ?_
            conv => whnf
            refine ⟨(), trivial, imp_intro hA [0, 1, 2, 3] rfl rfl rfl ⟨rfl, rfl, by rw [hen]; rfl, trivial⟩ ?_ rfl⟩
            rw [hen]
            refine ⟨rfl, by simp [tb]; rfl, And.intro rfl (And.intro rfl fun j hj => by simp only [he j hj]), And.intro rfl (And.intro (Nat.le_refl _) fun i hi => rfl), trivial⟩
          · have hen : ended n picked nb busy ow = false := by simp [ended]; intro _; omega
            conv => whnf
            refine ⟨(), trivial, imp_intro hA [0, 1, 2, 3] rfl rfl rfl ⟨rfl, rfl, by rw [hen]; rfl, trivial⟩ ?_ rfl⟩
            rw [hen]
            refine ⟨rfl, by simp [tb]; rfl, And.intro rfl (And.intro rfl fun j hj => by simp only [he j hj]), And.intro rfl (And.intro (Nat.le_refl _) fun i hi => rfl), trivial⟩
    · conv => whnf
      refine ⟨(), trivial, ?_⟩
      have hz : cnt ow n = 0 := by omega
      have hf := cnt_zero hz
      have he : ended n picked nb busy ow = false := by simp [ended, hz]
      have hkz : cnt (kept picked nb busy ow) n = 0 := by rw [← hz]; exact cnt_congr fun i hi => by simp [kept, hf i hi]
      refine imp_intro hA [0, 1, 2, 3] rfl rfl rfl ?_ ?_ rfl
      · exact ⟨rfl, rfl, by rw [he]; rfl, trivial⟩
      · rw [he, hkz, hz]
        refine ⟨rfl, by simp [tb]; rfl, And.intro rfl (And.intro rfl fun i hi => by simp [kept, hf i hi]), And.intro rfl (And.intro (Nat.le_refl _) fun i hi => rfl), trivial⟩
  · have hend : ∀ (f : Nat → Bool), (∀ j, j < n → f j = after n picked nb busy ow j) → cnt f n = cnt (after n picked nb busy ow) n := fun f hf => cnt_congr hf
    unfold takeH4 takeH
    conv => whnf
    refine join_at (α := Unit) (fun _ => [(0, .o (.l (.p 0 0 0 0))), (8, sBool (ended n picked nb busy ow))])
      (fun _ => cntH n (after n picked nb busy ow) (cnt (after n picked nb busy ow) n) (count + tb (ended n picked nb busy ow))) (fun _ => 3) (fun _ => True) ?_ fun _ _ => ?_
    · conv => whnf
      refine dsplit (fun h => ?_) (fun h => ?_)
      · have hz : cnt (kept picked nb busy ow) n = 0 := by omega
        have hf := cnt_zero hz
        conv => whnf
        refine loopP_intro (α := Nat) (fun i => [(0, .o (.l (.p 0 0 0 0))), (7, .o (.l (.c 22 [3]))), (8, sBool (ended n picked nb busy ow)), (59, sInt .i64 n), (60, sInt .i64 i)])
          (fun i => takeH4 n (st2 nb busy (fun _ => false) i) (cnt (st2 nb busy (fun _ => false) i) n) (count + tb (ended n picked nb busy ow)) nb busy) (fun _ => 4) (fun i => i ≤ n) (fun i => n - i) 0 (Nat.zero_le _) ?_ fun i hi => ?_
        · refine imp_intro hA [0, 1, 2, 3] rfl rfl rfl ⟨rfl, rfl, rfl, rfl, rfl, trivial⟩ ?_ rfl
          have : cnt (st2 nb busy (fun _ => false) 0) n = cnt (kept picked nb busy ow) n := cnt_congr fun j hj => by simp [st2, hf j hj]
          refine ⟨rfl, ?_, And.intro rfl (And.intro rfl fun j hj => by simp [st2, hf j hj]), And.intro rfl (And.intro (Nat.le_refl _) fun i hi => rfl), trivial⟩
          rw [this]; rfl
        · have hki := cnt_le (st2 nb busy (fun _ => false) i) n
          unfold takeH4 takeH
          conv => whnf
          refine dsplit (fun h1 => ?_) (fun h1 => ?_)
          · have hstep : ∀ j, st2 nb busy (fun _ => false) (i + 1) j = if j = i then isb nb busy i else st2 nb busy (fun _ => false) i j := fun j => by
              simp only [st2]
              by_cases e : j = i
              · subst e; simp
              · have : (j < i + 1) = (j < i) := by apply propext; omega
                simp [e, this]
            have hii : st2 nb busy (fun _ => false) i i = false := by simp [st2]
            have hcnt := cnt_set (st2 nb busy (fun _ => false) i) (isb nb busy i) i n (by omega)
            rw [show (fun t => if t = i then isb nb busy i else st2 nb busy (fun _ => false) i t) = st2 nb busy (fun _ => false) (i + 1) from funext fun j => (hstep j).symm, hii] at hcnt
            have hl1 := cnt_le (st2 nb busy (fun _ => false) (i + 1)) n
            conv => whnf
            refine join_at (α := Unit) (fun _ => [(0, .o (.l (.p 0 0 0 0))), (7, .o (.l (.c 22 [3]))), (8, sBool (ended n picked nb busy ow)), (59, sInt .i64 n), (60, sInt .i64 i)])
              (fun _ => takeH4 n (st2 nb busy (fun _ => false) (i + 1)) (cnt (st2 nb busy (fun _ => false) (i + 1)) n) (count + tb (ended n picked nb busy ow)) nb busy) (fun _ => 4) (fun _ => True) ?_ fun _ _ => ?_
            · conv => whnf
              have hsp := is_spec nb busy i (by omega)
              rw [← hP] at hsp
              refine callP_spec hsp [3, 2] rfl rfl rfl
                (And.intro rfl (And.intro (And.intro rfl (And.intro (Nat.le_refl _) fun _ _ => rfl)) trivial)) rfl ?_
              rintro x h' n' ⟨rfl, rfl, rfl⟩
              refine ⟨rfl, ?_⟩
              conv => whnf
              refine bsplit (fun h3 => ?_) (fun h3 => ?_)
              · have h3' : isb nb busy i = true := by simpa [isb] using h3
                rw [h3'] at hcnt
                simp at hcnt
                conv => whnf
                refine ⟨by omega, ?_⟩
                conv => whnf
                refine ⟨by simp [nadd_eq]; omega, ?_⟩
                conv => whnf
                refine arI64 (by omega) (by omega) ?_
                conv => whnf
                refine ⟨(), trivial, imp_intro hA [0, 1, 2, 3] rfl rfl rfl ⟨rfl, rfl, rfl, rfl, rfl, trivial⟩ ?_ rfl⟩
                refine ⟨rfl, ?_, And.intro rfl (And.intro rfl fun j hj => ?_), And.intro rfl (And.intro (Nat.le_refl _) fun i hi => rfl), trivial⟩
                · rw [hcnt]; exact rfl
                · by_cases e : j = i <;> simp [hstep, h3', mrgL, mrg, setMany, setL, nadd_eq, e]
              · have h3' : isb nb busy i = false := by simpa [isb] using h3
                have hk : ∀ j, st2 nb busy (fun _ => false) (i + 1) j = st2 nb busy (fun _ => false) i j := fun j => by
                  rw [hstep, h3']
                  by_cases e : j = i
                  · subst e; simp [hii]
                  · simp [e]
                conv => whnf
                refine ⟨(), trivial, imp_intro hA [0, 1, 2, 3] rfl rfl rfl ⟨rfl, rfl, rfl, rfl, rfl, trivial⟩ ?_ rfl⟩
                rw [show st2 nb busy (fun _ => false) (i + 1) = st2 nb busy (fun _ => false) i from funext hk]
                exact ⟨rfl, rfl, And.intro rfl (And.intro rfl fun j hj => rfl), And.intro rfl (And.intro (Nat.le_refl _) fun i hi => rfl), trivial⟩
            · conv => whnf
              refine arI64 (by omega) (by omega) ?_
              conv => whnf
              refine ⟨i + 1, by omega, by omega, imp_intro hA [0, 1, 2, 3] rfl rfl rfl ⟨rfl, rfl, rfl, rfl, rfl, trivial⟩ ?_ rfl⟩
              exact ⟨rfl, rfl, And.intro rfl (And.intro rfl fun j hj => rfl), And.intro rfl (And.intro (Nat.le_refl _) fun i hi => rfl), trivial⟩
          · have he : ∀ j, j < n → st2 nb busy (fun _ => false) i j = after n picked nb busy ow j := fun j hj => by simp [st2, after, hz, show j < i by omega]
            conv => whnf
            refine ⟨(), trivial, imp_intro hA [0, 1, 2] rfl rfl rfl ⟨rfl, rfl, trivial⟩ ?_ rfl⟩
            rw [← hend _ he]
            exact ⟨rfl, And.intro rfl (And.intro rfl fun j hj => by simp only [he j hj]), trivial⟩
      · have he : ∀ j, j < n → after n picked nb busy ow j = kept picked nb busy ow j := fun j hj => by simp [after]; omega
        conv => whnf
        refine ⟨(), trivial, imp_intro hA [0, 1, 2] rfl rfl rfl ⟨rfl, rfl, trivial⟩ ?_ rfl⟩
        rw [← hend _ fun j hj => (he j hj).symm]
        exact ⟨rfl, And.intro rfl (And.intro rfl fun j hj => by simp only [he j hj]), trivial⟩
    · conv => whnf
      refine finP_intro [0, 1, 2] (sBool (ended n picked nb busy ow)) _ 3 rfl ⟨rfl, rfl, rfl⟩ rfl rfl rfl ?_ rfl
      exact And.intro rfl (And.intro (And.intro rfl (And.intro rfl fun i hi => rfl)) True.intro)

def owed (ow : Nat → Bool) : Nat → List Nat
  | 0 => []
  | n + 1 => if ow n then owed ow n ++ [n] else owed ow n
theorem owed_len (ow : Nat → Bool) : ∀ n, (owed ow n).length ≤ n
  | 0 => Nat.le_refl _
  | n + 1 => by have := owed_len ow n; simp only [owed]; split <;> simp <;> omega
def intsE (l : List Nat) : Nat → List Value := fun i => [.int .i64 ((l.getD i 0 : Nat) : Int)]
theorem owed_spec (n : Nat) (ow : Nat → Bool) (left count : Int) (hn : n ≤ 64) :
    FSpec Try.prog 20 (cntH n ow left count) 2 [.l (.p 0 0 0 0)] fun x h m => x = .o (.l (.s 2 1 0 (owed ow n).length 0)) ∧ m = 3 ∧ h = (2, some (.ar 1 (owed ow n).length (intsE (owed ow n)))) :: cntH n ow left count := by
  refine spec_of_ev Try.func20 ic20_eq (rs := [.t 2]) (by kernel_rfl) (by kernel_rfl) (by kernel_rfl) fun G hP hA => ?_
  unfold evF ic20 cntH
  conv => whnf
  refine loopP_intro (α := Nat) (fun i => [(3, .o (.l (.s 2 1 0 (owed ow i).length 0))), (9, .o (.l (.s 1 1 0 n 0))), (10, sInt .i64 n), (11, sInt .i64 i)])
    (fun i => (2, some (.ar 1 (owed ow i).length (intsE (owed ow i)))) :: cntH n ow left count) (fun _ => 3) (fun i => i ≤ n) (fun i => n - i) 0 (Nat.zero_le _) ?_ fun i hi => ?_
  · refine Imp.trans (imp_nil 3 1 (fun _ => []) rfl) (imp_intro hA [0, 1, 2] rfl rfl rfl ⟨rfl, rfl, rfl, rfl, trivial⟩ ?_ rfl)
    exact And.intro (And.intro rfl (And.intro rfl fun j hj => by simp [owed] at hj)) (And.intro rfl (And.intro (And.intro rfl (And.intro rfl fun _ _ => rfl)) trivial))
  · have hl := owed_len ow i
    unfold cntH
    conv => whnf
    refine dsplit (fun h1 => ?_) (fun h1 => ?_)
    · conv => whnf
      refine join_at (α := Unit) (fun _ => [(3, .o (.l (.s 2 1 0 (owed ow (i + 1)).length 0))), (9, .o (.l (.s 1 1 0 n 0))), (10, sInt .i64 n), (11, sInt .i64 i)])
        (fun _ => (2, some (.ar 1 (owed ow (i + 1)).length (intsE (owed ow (i + 1))))) :: cntH n ow left count) (fun _ => 3) (fun _ => True) ?_ fun _ _ => ?_
      · conv => whnf
        refine ⟨by omega, ?_⟩
        conv => whnf
        refine ⟨by simp [nadd_eq]; omega, ?_⟩
        conv => whnf
        refine bsplit (fun h2 => ?_) (fun h2 => ?_)
        · have ho : ow i = true := by simpa [nadd_eq] using h2
          conv => whnf
          refine ⟨⟨rfl, by omega, by omega⟩, ?_⟩
          conv => whnf
          have he : owed ow (i + 1) = owed ow i ++ [i] := by simp [owed, ho]
          have hlen : (owed ow (i + 1)).length = (owed ow i).length + 1 := by simp [he]
          refine ⟨(), trivial, imp_intro hA [0, 1, 4] rfl rfl rfl ⟨by rw [hlen]; rfl, rfl, rfl, rfl, trivial⟩ ?_ rfl⟩
          rw [hlen]
          refine And.intro (And.intro rfl (And.intro rfl fun j hj => ?_)) (And.intro rfl (And.intro (And.intro rfl (And.intro rfl fun _ _ => rfl)) trivial))
          by_cases e : j < (owed ow i).length
          · simp [intsE, he, e, List.getElem?_append]
          · have : j = (owed ow i).length := by omega
            subst this
            simp [intsE, he, rowsOf]
        · have ho : ow i = false := by simpa [nadd_eq] using h2
          have he : owed ow (i + 1) = owed ow i := by simp [owed, ho]
          conv => whnf
          refine ⟨(), trivial, imp_intro hA [0, 1, 2] rfl rfl rfl ⟨by rw [he]; rfl, rfl, rfl, rfl, trivial⟩ ?_ rfl⟩
          rw [he]
          exact And.intro (And.intro rfl (And.intro rfl fun j hj => rfl)) (And.intro rfl (And.intro (And.intro rfl (And.intro rfl fun _ _ => rfl)) trivial))
      · conv => whnf
        refine arI64 (by omega) (by omega) ?_
        conv => whnf
        refine ⟨i + 1, by omega, by omega, imp_intro hA [0, 1, 2] rfl rfl rfl ⟨rfl, rfl, rfl, rfl, trivial⟩ ?_ rfl⟩
        exact And.intro (And.intro rfl (And.intro rfl fun j hj => rfl)) (And.intro rfl (And.intro (And.intro rfl (And.intro rfl fun _ _ => rfl)) trivial))
    · have : i = n := by omega
      subst this
      conv => whnf
      refine finP_intro [0, 1, 2] (.o (.l (.s 2 1 0 (owed ow i).length 0))) _ 3 rfl ⟨rfl, rfl, rfl⟩ rfl rfl rfl ?_ rfl
      exact And.intro (And.intro rfl (And.intro rfl fun j hj => rfl)) (And.intro rfl (And.intro (And.intro rfl (And.intro rfl fun _ _ => rfl)) trivial))

theorem awake_spec : FSpec Try.prog 16 [] 0 [] fun x h m => x = sBool true ∧ m = 0 ∧ h = [] := by
  refine spec_of_ev Try.func16 ic16_eq (rs := [.t 0]) (by kernel_rfl) (by kernel_rfl) (by kernel_rfl) fun G hP hA => ?_
  obtain ⟨b, hb⟩ : ∃ b : Nat → Bool, b = fun _ => true := ⟨_, rfl⟩
  obtain ⟨o0, ho0⟩ : ∃ o : Nat → Bool, o = fun _ => false := ⟨_, rfl⟩
  obtain ⟨o1, ho1⟩ : ∃ o : Nat → Bool, o = after 2 (-1) 2 b o0 := ⟨_, rfl⟩
  obtain ⟨e1, he1⟩ : ∃ o : Bool, o = ended 2 (-1) 2 b o0 := ⟨_, rfl⟩
  obtain ⟨o2, ho2⟩ : ∃ o : Nat → Bool, o = after 2 0 2 b o1 := ⟨_, rfl⟩
  obtain ⟨e2, he2⟩ : ∃ o : Bool, o = ended 2 0 2 b o1 := ⟨_, rfl⟩
  obtain ⟨o3, ho3⟩ : ∃ o : Nat → Bool, o = after 2 0 2 b o2 := ⟨_, rfl⟩
  obtain ⟨e3, he3⟩ : ∃ o : Bool, o = ended 2 0 2 b o2 := ⟨_, rfl⟩
  obtain ⟨o4, ho4⟩ : ∃ o : Nat → Bool, o = after 2 1 2 b o3 := ⟨_, rfl⟩
  obtain ⟨e4, he4⟩ : ∃ o : Bool, o = ended 2 1 2 b o3 := ⟨_, rfl⟩
  have v1 : e1 = false := by subst he1 ho0 hb; decide
  have v2 : e2 = false := by subst he2 ho1 ho0 hb; decide
  have v3 : e3 = false := by subst he3 ho2 ho1 ho0 hb; decide
  have v4 : e4 = true := by subst he4 ho3 ho2 ho1 ho0 hb; decide
  have v5 : (owed o4 2).length = 2 := by subst ho4 ho3 ho2 ho1 ho0 hb; decide
  have v0 : (cnt o0 2 : Int) = 0 := by subst ho0; decide
  have hw0 := new_spec 2
  have ht0 := take_spec 2 o0 0 (-1) 2 b (by omega) (by omega) (by omega)
  have ht1 := take_spec 2 o1 0 0 2 b (by omega) (by omega) (by omega)
  have ht2 := take_spec 2 o2 0 0 2 b (by omega) (by omega) (by omega)
  have ht3 := take_spec 2 o3 0 1 2 b (by omega) (by omega) (by omega)
  rw [← ho1, ← he1, v1] at ht0
  rw [← ho2, ← he2, v2] at ht1
  rw [← ho3, ← he3, v3] at ht2
  rw [← ho4, ← he4, v4] at ht3
  have hc3 := count_spec 2 o3 (cnt o3 2) 0
  have hc4 := count_spec 2 o4 (cnt o4 2) 1
  have hd4 := owed_spec 2 o4 (cnt o4 2) 1 (by omega)
  rw [v5] at hd4
  have z0 : (0 : Int) + tb false = 0 := rfl
  have z1 : (0 : Int) + tb true = 1 := rfl
  rw [z0] at ht0 ht1 ht2
  rw [z1] at ht3
  rw [v0] at ht0
  rw [← hP] at hw0 ht0 ht1 ht2 ht3 hc3 hc4 hd4
  have hbr : ∀ i, i < 2 → rowsOf 1 2 [Value.bool true, Value.bool true] i = [Value.bool (b i)] := fun i hi => by
    subst hb
    match i, hi with
    | 0, _ => rfl
    | 1, _ => rfl
  generalize (cnt o1 2 : Int) = n1 at *
  generalize (cnt o2 2 : Int) = n2 at *
  generalize (cnt o3 2 : Int) = n3 at *
  generalize (cnt o4 2 : Int) = n4 at *
  clear v0 v1 v2 v3 v4 v5 ho1 ho2 ho3 ho4 he1 he2 he3 he4 hb
  unfold evF ic16
  conv => whnf
  refine callP_spec hw0 [] rfl rfl rfl trivial rfl ?_
  rintro x h' n' ⟨rfl, rfl, rfl⟩
  refine ⟨rfl, ?_⟩
  conv => whnf
  refine callP_spec ht0 [0, 1, 2] rfl rfl rfl
    (And.intro rfl (And.intro (And.intro rfl (And.intro rfl fun _ _ => by rw [ho0])) (And.intro (And.intro rfl (And.intro (Nat.le_refl _) hbr)) trivial))) rfl ?_
  rintro x h' n' ⟨rfl, rfl, rfl⟩
  refine ⟨rfl, ?_⟩
  conv => whnf
  refine callP_spec ht1 [0, 1, 2] rfl rfl rfl
    (And.intro rfl (And.intro (And.intro rfl (And.intro rfl fun _ _ => rfl)) (And.intro (And.intro rfl (And.intro (Nat.le_refl _) hbr)) trivial))) rfl ?_
  rintro x h' n' ⟨rfl, rfl, rfl⟩
  refine ⟨rfl, ?_⟩
  conv => whnf
  refine callP_spec ht2 [0, 1, 2] rfl rfl rfl
    (And.intro rfl (And.intro (And.intro rfl (And.intro rfl fun _ _ => rfl)) (And.intro (And.intro rfl (And.intro (Nat.le_refl _) hbr)) trivial))) rfl ?_
  rintro x h' n' ⟨rfl, rfl, rfl⟩
  refine ⟨rfl, ?_⟩
  conv => whnf
  refine callP_spec hc3 [0, 1] rfl rfl rfl
    (And.intro rfl (And.intro (And.intro rfl (And.intro rfl fun _ _ => rfl)) trivial)) rfl ?_
  rintro x h' n' ⟨rfl, rfl, rfl⟩
  refine ⟨rfl, ?_⟩
  conv => whnf
  refine callP_spec ht3 [0, 1, 2] rfl rfl rfl
    (And.intro rfl (And.intro (And.intro rfl (And.intro rfl fun _ _ => rfl)) (And.intro (And.intro rfl (And.intro (Nat.le_refl _) hbr)) trivial))) rfl ?_
  rintro x h' n' ⟨rfl, rfl, rfl⟩
  refine ⟨rfl, ?_⟩
  conv => whnf
  refine callP_spec hc4 [0, 1] rfl rfl rfl
    (And.intro rfl (And.intro (And.intro rfl (And.intro rfl fun _ _ => rfl)) trivial)) rfl ?_
  rintro x h' n' ⟨rfl, rfl, rfl⟩
  refine ⟨rfl, ?_⟩
  conv => whnf
  refine callP_spec hd4 [0, 1] rfl rfl rfl
    (And.intro rfl (And.intro (And.intro rfl (And.intro rfl fun _ _ => rfl)) trivial)) rfl ?_
  rintro x h' n' ⟨rfl, rfl, rfl⟩
  refine ⟨rfl, ?_⟩
  conv => whnf
  exact finP_intro [] (sBool true) [] 0 rfl ⟨rfl, rfl, rfl⟩ rfl rfl rfl trivial rfl
end Go.Proofs.Ytfkhaicghoiijaa
