/- part -/
import Derived.Test.YtlkfolopbehikaaGreatSxT
set_option linter.unusedSimpArgs false
set_option linter.unusedVariables false
set_option linter.unusedSectionVars false
namespace Go.Sx
open Go
abbrev Bd := List (Option Nat)
def bdK : Bd -> (Bd -> Prop) -> Prop
 | [], K => K []
 | none :: l, K => bdK l fun l => K (none :: l)
 | some k :: l, K => natK k fun k => bdK l fun l => K (some k :: l)
theorem ZJ6 (l : Bd) (K : Bd -> Prop) : bdK l K = K l := by
 induction l generalizing K with
 | nil => rfl
 | cons x l ih => cases x <;> simp [bdK, ih, ZBV]
def bset : Bd -> Nat -> Nat -> Bd
 | [], _, _ => []
 | some i :: l, 0, _ => some i :: l
 | none :: l, 0, j => some j :: l
 | b :: l, k + 1, j => b :: bset l k j
def mNs : List Nat -> List Nat -> Bd -> (Bd -> Prop) -> Prop
 | k :: ks, j :: js, l, K => bdK (bset l k j) fun l => mNs ks js l K
 | _, _, l, K => K l
def mLV (p x : LV) (l : Bd) (K : Bd -> Prop) : Prop := match p, x with
 | .p k _ _ _, .p j _ _ _ => bdK (bset l k j) K
 | .s k _ _ _ _, .s j _ _ _ _ => bdK (bset l k j) K
 | .i _ k, .i _ j => bdK (bset l k j) K
 | .c _ ks, .c _ js => mNs ks js l K
 | .fp k _ _ _ _, .fp j _ _ _ _ => bdK (bset l k j) K
 | .mref k, .mref j => bdK (bset l k j) K
 | .stmp k, .stmp j => bdK (bset l k j) K
 | .fs k _ _ _ _ _, .fs j _ _ _ _ _ => bdK (bset l k j) K
 | _, _ => K l
def mLVs : List LV -> List LV -> Bd -> (Bd -> Prop) -> Prop
 | p :: ps, x :: xs, l, K => mLV p x l fun l => mLVs ps xs l K
 | _, _, l, K => K l
def mAV (p x : AV) (l : Bd) (K : Bd -> Prop) : Prop := match p, x with
 | .l p, .l x => mLV p x l K
 | .a ps, .a xs => mLVs ps xs l K
 | _, _ => K l
def mAVs : List AV -> List AV -> Bd -> (Bd -> Prop) -> Prop
 | p :: ps, x :: xs, l, K => mAV p x l fun l => mAVs ps xs l K
 | _, _, l, K => K l
def mSV (p x : SV) (l : Bd) (K : Bd -> Prop) : Prop := match p, x with
 | .o p, .o x => mAV p x l K
 | .t ps, .t xs => mAVs ps xs l K
 | _, _ => K l
def ZMm : Regs -> Regs -> Bd -> (Bd -> Prop) -> Prop
 | [], _, l, K => K l
 | (_, .o (.l (.v _))) :: ps, r, l, K => ZMm ps r l K
 | (t, p) :: ps, r, l, K => match rget r t with
  | some x => mSV p x l fun l => ZMm ps r l K
  | none => ZMm ps r l K
def ZHD : Heap -> Heap -> Bd -> (Bd -> Prop) -> Prop
 | [], _, l, K => K l
 | (k, some (.st ps)) :: hs, h, l, K => match nth l k with
   | some (some j) => match hget h j with
    | some (.st xs) => mLVs ps xs l fun l => ZHD hs h l K
    | _ => ZHD hs h l K
   | _ => ZHD hs h l K
 | (k, some (.ob ps _)) :: hs, h, l, K => match nth l k with
   | some (some j) => match hget h j with
    | some (.ob xs _) => mNs ps xs l fun l => ZHD hs h l K
    | _ => ZHD hs h l K
   | _ => ZHD hs h l K
 | _ :: hs, h, l, K => ZHD hs h l K
def ZMn : Nat -> Heap -> Heap -> Bd -> (Bd -> Prop) -> Prop
 | 0, _, _, l, K => K l
 | m + 1, p, h, l, K => ZHD p h l fun l => ZMn m p h l K
def bd0 : Nat -> Nat -> Nat -> Bd
 | 0, _, _ => []
 | m + 1, 0, k => none :: bd0 m 0 (k + 1)
 | m + 1, np + 1, k => some k :: bd0 m np (k + 1)
def unB : Bd -> List Nat
 | [] => []
 | some j :: l => j :: unB l
 | none :: l => 0 :: unB l
def outB (K : List Nat -> Prop) (l : Bd) : Prop := ZG9 (unB l) K
def ZFL (np : Nat) (args xs : List AV) (pre h : Heap) (K : List Nat -> Prop) : Prop := bdK (bd0 np 0 0) fun l => mAVs args xs l fun l => ZMn 3 pre h l (outB K)
def ZOV (np m : Nat) (R r : Regs) (H h : Heap) (K : List Nat -> Prop) : Prop := bdK (bd0 m np 0) fun l => ZMm R r l fun l => ZMn 3 H h l (outB K)
def ZOW (np m : Nat) (X x : SV) (H h : Heap) (K : List Nat -> Prop) : Prop := bdK (bd0 m np 0) fun l => mSV X x l fun l => ZMn 3 H h l (outB K)
theorem ZOX : ∀ (ks js : List Nat) (l : Bd) (K : Bd -> Prop), mNs ks js l K -> ∃ l, K l
 | k :: ks, j :: js, l, K, h => by simp only [mNs, ZJ6] at h; exact ZOX ks js _ K h
 | [], _, l, K, h => ⟨l, by simpa [mNs] using h⟩
 | _ :: _, [], l, K, h => ⟨l, by simpa [mNs] using h⟩
theorem ZPZ (p x : LV) (l : Bd) (K : Bd -> Prop) (h : mLV p x l K) : ∃ l, K l := by
 unfold mLV at h
 split at h <;> first | (rw [ZJ6] at h; exact ⟨_, h⟩) | exact ZOX _ _ _ _ h | exact ⟨_, h⟩
theorem ZLD : ∀ (ps xs : List LV) (l : Bd) (K : Bd -> Prop), mLVs ps xs l K -> ∃ l, K l
 | p :: ps, x :: xs, l, K, h => by simp only [mLVs] at h; obtain ⟨l, h⟩ := ZPZ _ _ _ _ h; exact ZLD ps xs _ K h
 | [], _, l, K, h => ⟨l, by simpa [mLVs] using h⟩
 | _ :: _, [], l, K, h => ⟨l, by simpa [mLVs] using h⟩
theorem ZPa (p x : AV) (l : Bd) (K : Bd -> Prop) (h : mAV p x l K) : ∃ l, K l := by
 unfold mAV at h
 split at h
 ·exact ZPZ _ _ _ _ h
 ·exact ZLD _ _ _ _ h
 ·exact ⟨_, h⟩
theorem ZLE : ∀ (ps xs : List AV) (l : Bd) (K : Bd -> Prop), mAVs ps xs l K -> ∃ l, K l
 | p :: ps, x :: xs, l, K, h => by simp only [mAVs] at h; obtain ⟨l, h⟩ := ZPa _ _ _ _ h; exact ZLE ps xs _ K h
 | [], _, l, K, h => ⟨l, by simpa [mAVs] using h⟩
 | _ :: _, [], l, K, h => ⟨l, by simpa [mAVs] using h⟩
theorem ZPb (p x : SV) (l : Bd) (K : Bd -> Prop) (h : mSV p x l K) : ∃ l, K l := by
 unfold mSV at h
 split at h
 ·exact ZPa _ _ _ _ h
 ·exact ZLE _ _ _ _ h
 ·exact ⟨_, h⟩
theorem ZF4 : ∀ (ps r : Regs) (l : Bd) (K : Bd -> Prop), ZMm ps r l K -> ∃ l, K l
 | [], r, l, K, h => ⟨l, h⟩
 | (t, p) :: ps, r, l, K, h => by
  unfold ZMm at h
  split at h
  ·exact ⟨_, h⟩
  ·rename_i heq; cases heq; exact ZF4 _ _ _ _ h
  ·rename_i heq; cases heq
   split at h
   ·obtain ⟨l, h⟩ := ZPb _ _ _ _ h; exact ZF4 _ _ _ _ h
   ·exact ZF4 _ _ _ _ h
theorem ZDK : ∀ (hs h : Heap) (l : Bd) (K : Bd -> Prop), ZHD hs h l K -> ∃ l, K l
 | [], h, l, K, hk => ⟨l, hk⟩
 | e :: hs, h, l, K, hk => by
  unfold ZHD at hk
  split at hk
  ·exact ⟨_, hk⟩
  ·rename_i heq; cases heq
   split at hk
   ·split at hk
    ·obtain ⟨l, hk⟩ := ZLD _ _ _ _ hk; exact ZDK _ _ _ _ hk
    ·exact ZDK _ _ _ _ hk
   ·exact ZDK _ _ _ _ hk
  ·rename_i heq; cases heq
   split at hk
   ·split at hk
    ·obtain ⟨l, hk⟩ := ZOX _ _ _ _ hk; exact ZDK _ _ _ _ hk
    ·exact ZDK _ _ _ _ hk
   ·exact ZDK _ _ _ _ hk
  ·rename_i heq; cases heq; exact ZDK _ _ _ _ hk
theorem ZF5 : ∀ (m : Nat) (p h : Heap) (l : Bd) (K : Bd -> Prop), ZMn m p h l K -> ∃ l, K l
 | 0, p, h, l, K, hk => ⟨l, hk⟩
 | m + 1, p, h, l, K, hk => by simp only [ZMn] at hk; obtain ⟨l, hk⟩ := ZDK _ _ _ _ hk; exact ZF5 m p h _ K hk
theorem ZLF {K : List Nat -> Prop} {l : Bd} (h : outB K l) : ∃ l, K l := by simp only [outB, ZE7] at h; exact ⟨_, h⟩
theorem ZC5 {np : Nat} {args xs : List AV} {pre h : Heap} {K : List Nat -> Prop} (hk : ZFL np args xs pre h K) : ∃ l, K l := by
 simp only [ZFL, ZJ6] at hk
 obtain ⟨l, hk⟩ := ZLE _ _ _ _ hk
 obtain ⟨l, hk⟩ := ZF5 _ _ _ _ _ hk
 exact ZLF hk
theorem ZOY {np m : Nat} {R r : Regs} {H h : Heap} {K : List Nat -> Prop} (hk : ZOV np m R r H h K) : ∃ l, K l := by
 simp only [ZOV, ZJ6] at hk
 obtain ⟨l, hk⟩ := ZF4 _ _ _ _ hk
 obtain ⟨l, hk⟩ := ZF5 _ _ _ _ _ hk
 exact ZLF hk
theorem ZOZ {np m : Nat} {X x : SV} {H h : Heap} {K : List Nat -> Prop} (hk : ZOW np m X x H h K) : ∃ l, K l := by
 simp only [ZOW, ZJ6] at hk
 obtain ⟨l, hk⟩ := ZPb _ _ _ _ hk
 obtain ⟨l, hk⟩ := ZF5 _ _ _ _ _ hk
 exact ZLF hk
section
variable {P : Program} {G : Ctx} {f : FuncId} {pre : Heap} {np : Nat} {args : List AV} {X : SV} {M : Nat} {H : Heap} {xs : List AV} {h : Heap} {n : Nat} {K : SV -> Heap -> Nat -> Prop}
theorem ZBq (hP : G.P = P) (hsp : ZAC P f pre np args fun x h m => x = X /\ m = M /\ h = H)
  (hk : ZFL np args xs pre h fun l => (l.length = np /\ l.all (fun j => decide (j < n)) = true /\ xs = args.map (AV.ren (ren1 l n)) /\ ZBC (ren1 l n) h pre /\ ZBh (ren1 l n) pre = true /\ ZEj (ren2 l n) M H = true) /\
   K (X.ren (ren2 l n)) (renH (ren2 l n) H ++ tomb (ren1 l n) pre) (n + (M - np))) : CallP G f xs h n K := by
 subst hP
 obtain ⟨l, ⟨h1, h2, h3, h4, h5, h6⟩, h7⟩ := ZC5 hk
 exact ZF3 hsp l h1 h2 h3 h4 h5 h6 h7
theorem ZBU (hP : G.P = P) (hsp : ZAC P f pre np args fun x h m => x = X /\ m = M /\ h = H)
  (hk : ZFL np args xs pre h fun l => (l.length = np /\ l.all (fun j => decide (j < n)) = true /\ xs = args.map (AV.ren (ren1 l n)) /\ ZBC (ren1 l n) h pre /\ ZBh (ren1 l n) pre = true /\ ZEj (ren2 l n) M H = true) /\
   K (X.ren (ren2 l n)) (renH (ren2 l n) H ++ tomb (ren1 l n) pre) (n + (M - np))) : CallD G f xs h n K := by
 subst hP
 obtain ⟨l, ⟨h1, h2, h3, h4, h5, h6⟩, h7⟩ := ZC5 hk
 exact ZMg hsp l h1 h2 h3 h4 h5 h6 h7
end
theorem ZF6 {np : Nat} {x : SV} {h : Heap} {n : Nat} {X : SV} {M : Nat} {H : Heap} (hk : ZOW np M X x H h fun l => l.length = M /\ ZIb l np = true /\ l.all (fun j => decide (j < n)) = true /\ x = X.ren (ren1 l n) /\ ZBC (ren1 l n) h H /\ ZBh (ren1 l n) H = true) :
  FinP np x h n fun x h m => x = X /\ m = M /\ h = H := by
 obtain ⟨l, h0, h1, h2, h3, h4, h5⟩ := ZOZ hk
 exact ZCm l X H M h0 ⟨rfl, rfl, rfl⟩ h1 h2 h3 h4 h5
theorem ZLq {G : Ctx} {np : Nat} (hA : G.A = np) {r : Regs} {h : Heap} {n : Nat} {r' : Regs} {h' : Heap} {n' : Nat}
  (hk : ZOV np n' r' r h' h fun l => l.length = n' /\ ZIb l np = true /\ l.all (fun j => decide (j < n)) = true /\ ZFb (ren1 l n) r r' /\ ZBC (ren1 l n) h h' /\ ZBh (ren1 l n) h' = true) : Imp G r h n r' h' n' := by
 obtain ⟨l, h0, h1, h2, h3, h4, h5⟩ := ZOY hk
 exact ZAQ hA l h0 h1 h2 h3 h4 h5
def wrO : List IOp -> List Nat -> List Nat
 | [], l => l
 | o :: os, l => match o.dst with | some d => wrO os (d :: l) | none => wrO os l
def wrC : IC -> List Nat -> List Nat
 | .skip, l => l
 | .reg ops, l => wrO ops l
 | .draw ops _, l => wrO ops l
 | .seq a b, l => wrC b (wrC a l)
 | .jn a b, l => wrC b (wrC a l)
 | .cond _ a b, l => wrC b (wrC a l)
 | .blk _ b, l => wrC b l
 | .loop b, l => wrC b l
 | .exit _, l => l
 | .ret, l => l
def memB : Nat -> List Nat -> Bool
 | _, [] => false
 | k, j :: l => bif Nat.beq k j then true else memB k l
def ZHE : List Nat -> Regs -> Regs
 | _, [] => []
 | w, (t, x) :: r => bif memB t w then ZHE w r else (t, x) :: ZHE (t :: w) r
def ZGs : List Nat -> Heap -> Heap
 | _, [] => []
 | w, (k, some e) :: h => bif memB k w then ZGs w h else (k, some e) :: ZGs (k :: w) h
 | w, (k, none) :: h => ZGs (k :: w) h
def ZIh : Regs -> List Nat -> List Nat
 | [], l => l
 | (t, _) :: r, l => ZIh r (t :: l)
def ZIi : Heap -> List Nat -> List Nat
 | [], l => l
 | (k, _) :: h, l => ZIi h (k :: l)
def ZIj : Regs -> (Regs -> Prop) -> Prop
 | [], K => K []
 | (t, x) :: r, K => natK t fun t => svK x fun x => ZIj r fun r => K ((t, x) :: r)
theorem ZLr (r : Regs) (K : Regs -> Prop) : ZIj r K = K r := by
 induction r generalizing K with
 | nil => rfl
 | cons e u ih => obtain ⟨k, e⟩ := e; simp [ZIj, ZBV, ZE8, ih]
def ZOa : IC -> Bool
 | .loop _ => true
 | _ => false
section
variable {G : Ctx}
theorem ZAg {α : Type} {b : IC} {r : Regs} {h : Heap} {n : Nat} {K : X -> Regs -> Heap -> Nat -> Prop} {ds : List Nat} (N : Nat) (R : α -> Regs) (ks : List Nat) (H : α -> Heap) (I : α -> Prop) (μ : α -> Nat) (x0 : α) (hI : I x0)
  (h0 : ZG9 (wrC b ds) fun w => ZIj (R x0 ++ ZHE (ZIh (R x0) w) r) fun r1 => ZFR (H x0 ++ ZGs (ZIi (H x0) ks) h) fun h1 => Imp G r h n r1 h1 N)
  (hr : ∀ x, I x -> ZG9 (wrC b ds) fun w => ZIj (R x ++ ZHE (ZIh (R x) w) r) fun r1 => ZFR (H x ++ ZGs (ZIi (H x) ks) h) fun h1 => evC (CallP G) (InvP G) (EscP G) (LoopP G) (DrawP G) b r1 h1 N fun e r' h' n' => match e with
   | .nrm => ∃ y, I y /\ μ y < μ x /\ ZIj (R y ++ ZHE (ZIh (R y) w) r) fun r1 => ZFR (H y ++ ZGs (ZIi (H y) ks) h) fun h1 => Imp G r' h' n' r1 h1 N
   | .ex id => K (.ex id) r' h' n'
   | .ret => K .ret r' h' n') (hb : ZOa b = false := by rfl) : LoopP G b r h n K := by
 simp only [ZE7, ZLr, ZCQ] at h0 hr
 exact ZKz (fun x => R x ++ ZHE (ZIh (R x) (wrC b ds)) r) (fun x => H x ++ ZGs (ZIi (H x) ks) h) (fun _ => N) I μ x0 hI h0 hr (by cases b <;> first | rfl | cases hb)
end
end Go.Sx
