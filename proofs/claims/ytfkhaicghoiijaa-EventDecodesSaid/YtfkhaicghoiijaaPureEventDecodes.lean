/- EventDecodes' plain law: for any bytes (each from 0 to 255), at most 300 of them or more, the plain form of the statement tells true. -/
import Derived.Test.YtfkhaicghoiijaaPEventDecodesx4
namespace Go.Proofs.Ytfkhaicghoiijaa.Pure
open Go.RowKit Go.Proofs.Ytfkhaicghoiijaa.PEventDecodes Go.Proofs.YtfkhaicghoiijaaW.PrintWords Go.Proofs.YtfkhaicghoiijaaW.PrintLast

/-- The event of one byte. -/
def kOf (x : Int) : Int × Int × Int :=
  if x % 8 = 4 then (2, 0, 0) else if x % 8 = 5 then (3, x / 8, -1) else if x % 8 = 6 then (3, x / 8, 0)
  else if x % 8 = 7 then (4, x / 8, 0) else (1, x / 8, 0)

def dec : List Int → List (Int × Int × Int)
  | [] => []
  | [x] => [kOf x]
  | x :: y :: r => if x % 8 = 6 then (3, x / 8, y) :: dec r else kOf x :: dec (y :: r)

def m29 (e : Int × Int × Int) : S29 := ⟨e.1, e.2.1, e.2.2⟩
def m30 (e : Int × Int × Int) : S30 := ⟨e.1, e.2.1, e.2.2⟩

theorem low_nat : ∀ x : Fin 256, Go.bits .and .u8 ((x.val : Nat) : Int) 7 = ((x.val % 8 : Nat) : Int) := by decide +kernel
theorem low {x : Int} (h0 : 0 ≤ x) (h1 : x ≤ 255) : Go.bits .and .u8 x 7 = x % 8 := by
  have := low_nat ⟨x.toNat, by omega⟩
  have e : ((x.toNat : Nat) : Int) = x := by omega
  simp only [e] at this
  rw [this]; omega
theorem w64 {x : Int} (h0 : -1000000 ≤ x) (h1 : x ≤ 1000000) : wrap64 x = x := by unfold wrap64; omega

theorem one_f {x : Int} (h0 : 0 ≤ x) (h1 : x ≤ 255) :
    event_one.f x = some ((kOf x).1, (kOf x).2.1, (kOf x).2.2, decide (x % 8 = 6)) := by
  unfold event_one.f kOf
  rw [low h0 h1, w64 (x := x / 8) (by omega) (by omega)]
  by_cases a : x % 8 = 4
  · simp [a]
  by_cases b : x % 8 = 5
  · simp [b]
  by_cases c : x % 8 = 6
  · simp [c]
  by_cases d : x % 8 = 7
  · simp [d]
  simp [a, b, c, d]

theorem dec_length : ∀ n (l : List Int), l.length ≤ n → (dec l).length ≤ l.length
  | _, [], _ => by simp [dec]
  | _, [x], _ => by simp [dec]
  | 0, x :: y :: r, h => by simp at h
  | n + 1, x :: y :: r, h => by
      simp only [List.length_cons] at h
      unfold dec
      split
      · have := dec_length n r (by omega)
        simp only [List.length_cons]; omega
      · have := dec_length n (y :: r) (by simp only [List.length_cons]; omega)
        simp only [List.length_cons] at this ⊢; omega

theorem Decode_l0 : ∀ k (l : List Int) (acc : List S29), l.length < k → (∀ x ∈ l, 0 ≤ x ∧ x ≤ 255) → acc.length + l.length ≤ 1000 →
    event_Decode.l0 k l acc = some (acc ++ (dec l).map m29)
  | 0, _, _, h, _, _ => by omega
  | k + 1, [], acc, _, _, _ => by simp [event_Decode.l0, dec]
  | k + 1, [x], acc, h, hx, ha => by
      have h1 := hx x (by simp)
      have hd : (List.drop 1 [x] : List Int) = [] := rfl
      simp only [List.length_cons, List.length_nil] at h ha
      have ih := fun acc' => Decode_l0 k [] acc' (by simp; omega) (by simp)
      unfold event_Decode.l0
      simp only [rd, List.getD_cons_zero, Int.toNat_zero, one_f h1.1 h1.2, hd, Option.bind_some]
      by_cases c : x % 8 = 6 <;> simp [c, show acc.length < 5864062014805 by omega, dec, m29] <;> rw [ih _ (by simp; omega)] <;> simp [dec]
  | k + 1, x :: y :: r, acc, h, hx, ha => by
      have h1 := hx x (by simp)
      have h2 := hx y (by simp)
      have hd : (List.drop 1 (x :: y :: r) : List Int) = y :: r := rfl
      have hd2 : (List.drop 1 (y :: r) : List Int) = r := rfl
      simp only [List.length_cons] at h ha
      have ih1 := fun acc' => Decode_l0 k (y :: r) acc' (by simp; omega) (fun z hz => hx z (List.mem_cons_of_mem _ hz))
      have ih2 := fun acc' => Decode_l0 k r acc' (by omega) (fun z hz => hx z (by simp [hz]))
      unfold event_Decode.l0
      simp only [rd, List.getD_cons_zero, Int.toNat_zero, one_f h1.1 h1.2, hd, hd2, Option.bind_some]
      have l1 : ((x :: y :: r).length : Int) > 0 := by simp only [List.length_cons]; omega
      have l2 : (1 : Int) ≤ ((x :: y :: r).length : Int) := by simp only [List.length_cons]; omega
      have l3 : ((y :: r).length : Int) > 0 := by simp only [List.length_cons]; omega
      have l4 : (1 : Int) ≤ ((y :: r).length : Int) := by simp only [List.length_cons]; omega
      rw [if_pos l1, if_pos (show (0:Int) < _ from l1), if_pos l2, if_pos l3, if_pos (show (0:Int) < _ from l3), if_pos l4, if_pos (show acc.length < 5864062014805 by omega), w64 (x := y) (by omega) (by omega)]
      by_cases c : x % 8 = 6
      · simp only [c, decide_true, if_true]
        rw [ih2 _ (by simp; omega)]
        simp [dec, c, m29, kOf]
      · simp only [c, decide_false]
        rw [if_neg (by simp), if_pos (show acc.length < 5864062014805 by omega), ih1 _ (by simp; omega)]
        simp [dec, c, m29]

theorem Decode_f {l : List Int} {k : Nat} (h : l.length < k) (hx : ∀ x ∈ l, 0 ≤ x ∧ x ≤ 255) (ha : l.length ≤ 1000) :
    event_Decode.f k l = some ((dec l).map m29) := by
  unfold event_Decode.f
  rw [Decode_l0 k l [] h hx (by simpa using ha)]; rfl

theorem bt_str {l : List Int} (hx : ∀ x ∈ l, 0 ≤ x ∧ x ≤ 255) {i : Nat} (h : i < l.length) : bt (strOfNums l) (i : Int) = l[i] := by
  unfold bt
  rw [dif_pos (by rw [strOfNums_size]; simpa using h)]
  have hh := hx l[i] (List.getElem_mem h)
  have : (strOfNums l)[((i : Int)).toNat]'(by rw [strOfNums_size]; simpa using h) = UInt8.ofNat (l[i]).toNat := by
    show (strOfNums l).data[((i : Int)).toNat]'(by have := strOfNums_size l; simp only [ByteArray.size] at this; rw [this]; simpa using h) = _
    simp [strOfNums]
  rw [this, UInt8.toNat_ofNat']
  omega

theorem ref_l0 (l : List Int) (hx : ∀ x ∈ l, 0 ≤ x ∧ x ≤ 255) (hl : l.length ≤ 400) : ∀ k (i : Nat) (acc : List S30), i ≤ l.length → l.length - i < k → acc.length ≤ i →
    weighlockref07_Decode.l0 k (strOfNums l) acc (i : Int) = some (acc ++ (dec (l.drop i)).map m30) := by
  intro k
  induction k with
  | zero => intro i acc _ h; omega
  | succ k ih =>
    intro i acc hi hk ha
    unfold weighlockref07_Decode.l0
    rw [strOfNums_size]
    by_cases he : i = l.length
    · subst he
      simp [dec]
    · have hlt : i < l.length := by omega
      have hb := hx l[i] (List.getElem_mem hlt)
      rw [if_pos (by omega), if_pos (by omega), bt_str hx hlt]
      have ih1 := fun acc' => ih (i + 1) acc' (by omega) (by omega)
      have acc8 : acc.length < 5864062014805 := by omega
      have ed : l.drop i = l[i] :: l.drop (i + 1) := List.drop_eq_getElem_cons hlt
      rw [ed]
      generalize l[i] = x at hb ⊢
      have t8 : Int.tmod (wrap64 x) 8 = x % 8 := by rw [w64 (by omega) (by omega), Int.tmod_eq_emod_of_nonneg (by omega)]
      have d8 : wrap64 (Int.tdiv (wrap64 x) 8) = x / 8 := by
        rw [w64 (x := x) (by omega) (by omega), Int.tdiv_eq_ediv_of_nonneg (by omega), w64 (x := x / 8) (by omega) (by omega)]
      have ei : wrap64 ((i : Int) + 1) = ((i + 1 : Nat) : Int) := by rw [w64 (by omega) (by omega)]; omega
      have ei2 : wrap64 (((i + 1 : Nat) : Int) + 1) = ((i + 2 : Nat) : Int) := by rw [w64 (by omega) (by omega)]; omega
      rw [t8, d8, ei]
      clear t8 d8 ei
      have fin : ∀ e, e = kOf x → (x % 8 ≠ 6 ∨ i + 1 = l.length) →
          weighlockref07_Decode.l0 k (strOfNums l) (acc ++ [m30 e]) ((i + 1 : Nat) : Int) = some (acc ++ (dec (x :: l.drop (i + 1))).map m30) := by
        intro e ee h6
        rw [ih1 _ (by simp; omega)]
        subst ee
        by_cases hz : i + 1 = l.length
        · have : l.drop (i + 1) = [] := by rw [hz]; simp
          rw [this]; simp [dec]
        · obtain ⟨y, r, e2⟩ : ∃ y r, l.drop (i + 1) = y :: r := ⟨_, _, List.drop_eq_getElem_cons (by omega)⟩
          rw [e2]
          have : x % 8 ≠ 6 := by omega
          simp [dec, this]
      by_cases a : x % 8 < 4
      · rw [if_pos a, if_pos acc8]
        exact fin (1, x / 8, 0) (by unfold kOf; rw [if_neg (by omega), if_neg (by omega), if_neg (by omega), if_neg (by omega)]) (.inl (by omega))
      rw [if_neg a]
      by_cases b : x % 8 = 4
      · rw [if_pos b, if_pos acc8]
        exact fin (2, 0, 0) (by unfold kOf; rw [if_pos b]) (.inl (by omega))
      rw [if_neg b]
      by_cases c : x % 8 = 5
      · rw [if_pos c, if_pos acc8]
        exact fin (3, x / 8, -1) (by unfold kOf; rw [if_neg b, if_pos c]) (.inl (by omega))
      rw [if_neg c]
      by_cases d : x % 8 = 6
      · rw [if_pos d]
        by_cases hz : i + 1 = l.length
        · rw [if_neg (by omega), if_pos acc8]
          exact fin (3, x / 8, 0) (by unfold kOf; rw [if_neg b, if_neg c, if_pos d]) (.inr hz)
        · have hlt2 : i + 1 < l.length := by omega
          have hb2 := hx l[i + 1] (List.getElem_mem hlt2)
          rw [if_pos (by omega), if_pos (by omega), if_pos acc8, bt_str hx hlt2, ei2, w64 (x := l[i + 1]) (by omega) (by omega)]
          rw [ih (i + 2) _ (by omega) (by omega) (by simp; omega)]
          have e2 : l.drop (i + 1) = l[i + 1] :: l.drop (i + 2) := List.drop_eq_getElem_cons hlt2
          rw [e2]
          simp [dec, d, m30]
      · rw [if_neg d, if_pos acc8]
        exact fin (4, x / 8, 0) (by unfold kOf; rw [if_neg b, if_neg c, if_neg d, if_pos (by omega)]) (.inl (by omega))

theorem right_k {x : Int} (h0 : 0 ≤ x) (h1 : x ≤ 255) : event_Right.f (kOf x).1 (kOf x).2.1 (kOf x).2.2 = some true := by
  have q0 : 0 ≤ x / 8 := by omega
  have q1 : x / 8 ≤ 31 := by omega
  unfold kOf
  by_cases a : x % 8 = 4
  · rw [if_pos a]; decide
  rw [if_neg a]
  by_cases b : x % 8 = 5
  · rw [if_pos b]; simp [event_Right.f, q0, q1]
  rw [if_neg b]
  by_cases c : x % 8 = 6
  · rw [if_pos c]; simp [event_Right.f, q0, q1]
  rw [if_neg c]
  by_cases d : x % 8 = 7
  · rw [if_pos d]; simp [event_Right.f, q0, q1]
  rw [if_neg d]; simp [event_Right.f, q0, q1]

theorem right_dec : ∀ n (l : List Int), l.length ≤ n → (∀ x ∈ l, 0 ≤ x ∧ x ≤ 255) → ∀ e ∈ dec l, event_Right.f e.1 e.2.1 e.2.2 = some true
  | _, [], _, _, e, he => by simp [dec] at he
  | _, [x], _, hx, e, he => by
      simp [dec] at he; subst he
      exact right_k (hx x (by simp)).1 (hx x (by simp)).2
  | 0, x :: y :: r, h, _, _, _ => by simp at h
  | n + 1, x :: y :: r, h, hx, e, he => by
      have h1 := hx x (by simp)
      have h2 := hx y (by simp)
      simp only [List.length_cons] at h
      unfold dec at he
      split at he
      · rcases List.mem_cons.mp he with rfl | he
        · simp [event_Right.f, show 0 ≤ x / 8 by omega, show x / 8 ≤ 31 by omega, show -1 ≤ y by omega, h2.2]
        · exact right_dec n r (by omega) (fun z hz => hx z (by simp [hz])) e he
      · rcases List.mem_cons.mp he with rfl | he
        · exact right_k h1.1 h1.2
        · exact right_dec n (y :: r) (by simp; omega) (fun z hz => hx z (List.mem_cons_of_mem _ hz)) e he

theorem awake4 : weighlocklaw07_awake.f 4 = some true := by kernel_rfl
theorem awake {k : Nat} (h : 4 ≤ k) : weighlocklaw07_awake.f k = some true := at_rounds weighlocklaw07_awake.mono h awake4

theorem loop (l : List (Int × Int × Int)) (hl : l.length ≤ 400) (hr : ∀ e ∈ l, event_Right.f e.1 e.2.1 e.2.2 = some true) : ∀ k (i : Nat), i ≤ l.length → l.length - i + 4 < k →
    weighlocklaw07_EventDecodes.l0 k (l.map m30) (l.map m29) (l.length : Int) (i : Int) = some true := by
  intro k
  induction k with
  | zero => intro i _ h; omega
  | succ k ih =>
    intro i hi hk
    unfold weighlocklaw07_EventDecodes.l0
    by_cases he : i = l.length
    · subst he
      rw [if_neg (by omega), awake (by omega)]; rfl
    · have hlt : i < l.length := by omega
      have e1 : rd_T29 (l.map m29) (i : Int) = m29 l[i] := by simp [rd_T29, hlt]
      have e2 : rd_T30 (l.map m30) (i : Int) = m30 l[i] := by simp [rd_T30, hlt]
      have ei : wrap64 ((i : Int) + 1) = ((i + 1 : Nat) : Int) := by rw [w64 (by omega) (by omega)]; omega
      rw [if_pos (by omega), if_pos (by omega), if_pos (by simpa using hlt), if_pos (by simpa using hlt), e1, e2]
      rw [if_neg (by simp [m29, m30])]
      have := hr l[i] (List.getElem_mem hlt)
      simp only [m29, this, Option.bind_some, if_true]
      rw [ei]
      exact ih (i + 1) (by omega) (by omega)

theorem EventDecodes : weighlocklaw07_EventDecodes.Pure := by
  intro l hl hb hw
  have hx : ∀ x ∈ l, 0 ≤ x ∧ x ≤ 255 := by
    intro x h
    have := hw x h
    simp only [Lit.wf, IntKind.min, IntKind.max, IntKind.signed, IntKind.bits, Bool.and_eq_true, decide_eq_true_eq] at this
    simp at this; omega
  refine ⟨1000, ?_⟩
  unfold weighlocklaw07_EventDecodes.f
  by_cases h3 : (l.length : Int) > 300
  · rw [if_pos h3, awake (by omega)]; rfl
  · have dl := dec_length _ l (Nat.le_refl _)
    rw [if_neg h3, Decode_f (by omega) hx (by omega)]
    simp only [Option.bind_some]
    have := ref_l0 l hx (by omega) 1000 0 [] (by omega) (by omega) (by simp)
    rw [show weighlockref07_Decode.f 1000 (strOfNums l) = some ((dec l).map m30) from by
      unfold weighlockref07_Decode.f; simpa using this]
    simp only [Option.bind_some, List.length_map, if_true]
    exact loop (dec l) (by omega) (right_dec _ l (Nat.le_refl _) hx) 1000 0 (by omega) (by omega)

end Go.Proofs.Ytfkhaicghoiijaa.Pure
