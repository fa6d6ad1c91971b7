/- The symbolic walk, part W: what can be found by itself: under which names what a contract, a loop's head or an end speaks of lies here. -/
import Derived.Test.YtlkfolopbehikaaGreatSxT
set_option linter.unusedSimpArgs false
set_option linter.unusedVariables false
set_option linter.unusedSectionVars false
namespace Go.Sx
open Go
abbrev Bd := List (Option Nat)
def bdK : Bd -> (Bd -> Prop) -> Prop
 | [], K => K []
 | none :: l, K => bdK l fun l => K (none :: l)
 | some k :: l, K => natK k fun k => bdK l fun l => K (some k :: l)
theorem ZJ2 (l : Bd) (K : Bd -> Prop) : bdK l K = K l := by
 induction l generalizing K with
 | nil => rfl
 | cons x l ih => cases x <;> simp [bdK, ih, ZBb]
def bset : Bd -> Nat -> Nat -> Bd
 | [], _, _ => []
 | some i :: l, 0, _ => some i :: l
 | none :: l, 0, j => some j :: l
 | b :: l, k + 1, j => b :: bset l k j
def mNs : List Nat -> List Nat -> Bd -> (Bd -> Prop) -> Prop
 | k :: ks, j :: js, l, K => bdK (bset l k j) fun l => mNs ks js l K
 | _, _, l, K => K l
def mLV (p x : LV) (l : Bd) (K : Bd -> Prop) : Prop := match p, x with
 | .p k _ _ _, .p j _ _ _ => bdK (bset l k j) K
 | .s k _ _ _ _, .s j _ _ _ _ => bdK (bset l k j) K
 | .i _ k, .i _ j => bdK (bset l k j) K
 | .c _ ks, .c _ js => mNs ks js l K
 | .fp k _ _ _ _, .fp j _ _ _ _ => bdK (bset l k j) K
 | .mref k, .mref j => bdK (bset l k j) K
 | .stmp k, .stmp j => bdK (bset l k j) K
 | .fs k _ _ _ _ _, .fs j _ _ _ _ _ => bdK (bset l k j) K
 | _, _ => K l
def mLVs : List LV -> List LV -> Bd -> (Bd -> Prop) -> Prop
 | p :: ps, x :: xs, l, K => mLV p x l fun l => mLVs ps xs l K
 | _, _, l, K => K l
def mAV (p x : AV) (l : Bd) (K : Bd -> Prop) : Prop := match p, x with
 | .l p, .l x => mLV p x l K
 | .a ps, .a xs => mLVs ps xs l K
 | _, _ => K l
def mAVs : List AV -> List AV -> Bd -> (Bd -> Prop) -> Prop
 | p :: ps, x :: xs, l, K => mAV p x l fun l => mAVs ps xs l K
 | _, _, l, K => K l
def mSV (p x : SV) (l : Bd) (K : Bd -> Prop) : Prop := match p, x with
 | .o p, .o x => mAV p x l K
 | .t ps, .t xs => mAVs ps xs l K
 | _, _ => K l
def ZMi : Regs -> Regs -> Bd -> (Bd -> Prop) -> Prop
 | [], _, l, K => K l
 | (_, .o (.l (.v _))) :: ps, r, l, K => ZMi ps r l K
 | (t, p) :: ps, r, l, K => match rget r t with
  | some x => mSV p x l fun l => ZMi ps r l K
  | none => ZMi ps r l K
def ZHB : Heap -> Heap -> Bd -> (Bd -> Prop) -> Prop
 | [], _, l, K => K l
 | (k, some (.st ps)) :: hs, h, l, K => match nth l k with
   | some (some j) => match hget h j with
    | some (.st xs) => mLVs ps xs l fun l => ZHB hs h l K
    | _ => ZHB hs h l K
   | _ => ZHB hs h l K
 | (k, some (.ob ps _)) :: hs, h, l, K => match nth l k with
   | some (some j) => match hget h j with
    | some (.ob xs _) => mNs ps xs l fun l => ZHB hs h l K
    | _ => ZHB hs h l K
   | _ => ZHB hs h l K
 | _ :: hs, h, l, K => ZHB hs h l K
def ZMj : Nat -> Heap -> Heap -> Bd -> (Bd -> Prop) -> Prop
 | 0, _, _, l, K => K l
 | m + 1, p, h, l, K => ZHB p h l fun l => ZMj m p h l K
def bd0 : Nat -> Nat -> Nat -> Bd
 | 0, _, _ => []
 | m + 1, 0, k => none :: bd0 m 0 (k + 1)
 | m + 1, np + 1, k => some k :: bd0 m np (k + 1)
def unB : Bd -> List Nat
 | [] => []
 | some j :: l => j :: unB l
 | none :: l => 0 :: unB l
def outB (K : List Nat -> Prop) (l : Bd) : Prop := ZG7 (unB l) K
def ZGw (np : Nat) (args xs : List AV) (pre h : Heap) (K : List Nat -> Prop) : Prop := bdK (bd0 np 0 0) fun l => mAVs args xs l fun l => ZMj 3 pre h l (outB K)
def ZOS (np m : Nat) (R r : Regs) (H h : Heap) (K : List Nat -> Prop) : Prop := bdK (bd0 m np 0) fun l => ZMi R r l fun l => ZMj 3 H h l (outB K)
def ZOT (np m : Nat) (X x : SV) (H h : Heap) (K : List Nat -> Prop) : Prop := bdK (bd0 m np 0) fun l => mSV X x l fun l => ZMj 3 H h l (outB K)
theorem ZOU : ∀ (ks js : List Nat) (l : Bd) (K : Bd -> Prop), mNs ks js l K -> ∃ l, K l
 | k :: ks, j :: js, l, K, h => by simp only [mNs, ZJ2] at h; exact ZOU ks js _ K h
 | [], _, l, K, h => ⟨l, by simpa [mNs] using h⟩
 | _ :: _, [], l, K, h => ⟨l, by simpa [mNs] using h⟩
theorem ZPV (p x : LV) (l : Bd) (K : Bd -> Prop) (h : mLV p x l K) : ∃ l, K l := by
 unfold mLV at h
 split at h <;> first | (rw [ZJ2] at h; exact ⟨_, h⟩) | exact ZOU _ _ _ _ h | exact ⟨_, h⟩
theorem ZLC : ∀ (ps xs : List LV) (l : Bd) (K : Bd -> Prop), mLVs ps xs l K -> ∃ l, K l
 | p :: ps, x :: xs, l, K, h => by simp only [mLVs] at h; obtain ⟨l, h⟩ := ZPV _ _ _ _ h; exact ZLC ps xs _ K h
 | [], _, l, K, h => ⟨l, by simpa [mLVs] using h⟩
 | _ :: _, [], l, K, h => ⟨l, by simpa [mLVs] using h⟩
theorem ZPW (p x : AV) (l : Bd) (K : Bd -> Prop) (h : mAV p x l K) : ∃ l, K l := by
 unfold mAV at h
 split at h
 ·exact ZPV _ _ _ _ h
 ·exact ZLC _ _ _ _ h
 ·exact ⟨_, h⟩
theorem ZLD : ∀ (ps xs : List AV) (l : Bd) (K : Bd -> Prop), mAVs ps xs l K -> ∃ l, K l
 | p :: ps, x :: xs, l, K, h => by simp only [mAVs] at h; obtain ⟨l, h⟩ := ZPW _ _ _ _ h; exact ZLD ps xs _ K h
 | [], _, l, K, h => ⟨l, by simpa [mAVs] using h⟩
 | _ :: _, [], l, K, h => ⟨l, by simpa [mAVs] using h⟩
theorem ZPX (p x : SV) (l : Bd) (K : Bd -> Prop) (h : mSV p x l K) : ∃ l, K l := by
 unfold mSV at h
 split at h
 ·exact ZPW _ _ _ _ h
 ·exact ZLD _ _ _ _ h
 ·exact ⟨_, h⟩
theorem ZF4 : ∀ (ps r : Regs) (l : Bd) (K : Bd -> Prop), ZMi ps r l K -> ∃ l, K l
 | [], r, l, K, h => ⟨l, h⟩
 | (t, p) :: ps, r, l, K, h => by
  unfold ZMi at h
  split at h
  ·exact ⟨_, h⟩
  ·rename_i heq; cases heq; exact ZF4 _ _ _ _ h
  ·rename_i heq; cases heq
   split at h
   ·obtain ⟨l, h⟩ := ZPX _ _ _ _ h; exact ZF4 _ _ _ _ h
   ·exact ZF4 _ _ _ _ h
theorem ZDO : ∀ (hs h : Heap) (l : Bd) (K : Bd -> Prop), ZHB hs h l K -> ∃ l, K l
 | [], h, l, K, hk => ⟨l, hk⟩
 | e :: hs, h, l, K, hk => by
  unfold ZHB at hk
  split at hk
  ·exact ⟨_, hk⟩
  ·rename_i heq; cases heq
   split at hk
   ·split at hk
    ·obtain ⟨l, hk⟩ := ZLC _ _ _ _ hk; exact ZDO _ _ _ _ hk
    ·exact ZDO _ _ _ _ hk
   ·exact ZDO _ _ _ _ hk
  ·rename_i heq; cases heq
   split at hk
   ·split at hk
    ·obtain ⟨l, hk⟩ := ZOU _ _ _ _ hk; exact ZDO _ _ _ _ hk
    ·exact ZDO _ _ _ _ hk
   ·exact ZDO _ _ _ _ hk
  ·rename_i heq; cases heq; exact ZDO _ _ _ _ hk
theorem ZF5 : ∀ (m : Nat) (p h : Heap) (l : Bd) (K : Bd -> Prop), ZMj m p h l K -> ∃ l, K l
 | 0, p, h, l, K, hk => ⟨l, hk⟩
 | m + 1, p, h, l, K, hk => by simp only [ZMj] at hk; obtain ⟨l, hk⟩ := ZDO _ _ _ _ hk; exact ZF5 m p h _ K hk
theorem ZLE {K : List Nat -> Prop} {l : Bd} (h : outB K l) : ∃ l, K l := by simp only [outB, ZE9] at h; exact ⟨_, h⟩
theorem ZEB {np : Nat} {args xs : List AV} {pre h : Heap} {K : List Nat -> Prop} (hk : ZGw np args xs pre h K) : ∃ l, K l := by
 simp only [ZGw, ZJ2] at hk
 obtain ⟨l, hk⟩ := ZLD _ _ _ _ hk
 obtain ⟨l, hk⟩ := ZF5 _ _ _ _ _ hk
 exact ZLE hk
theorem ZOV {np m : Nat} {R r : Regs} {H h : Heap} {K : List Nat -> Prop} (hk : ZOS np m R r H h K) : ∃ l, K l := by
 simp only [ZOS, ZJ2] at hk
 obtain ⟨l, hk⟩ := ZF4 _ _ _ _ hk
 obtain ⟨l, hk⟩ := ZF5 _ _ _ _ _ hk
 exact ZLE hk
theorem ZOW {np m : Nat} {X x : SV} {H h : Heap} {K : List Nat -> Prop} (hk : ZOT np m X x H h K) : ∃ l, K l := by
 simp only [ZOT, ZJ2] at hk
 obtain ⟨l, hk⟩ := ZPX _ _ _ _ hk
 obtain ⟨l, hk⟩ := ZF5 _ _ _ _ _ hk
 exact ZLE hk
section
variable {P : Program} {G : Ctx} {f : FuncId} {pre : Heap} {np : Nat} {args : List AV} {X : SV} {M : Nat} {H : Heap} {xs : List AV} {h : Heap} {n : Nat} {K : SV -> Heap -> Nat -> Prop}
theorem ZAA (hP : G.P = P) (hsp : ZAH P f pre np args fun x h m => x = X /\ m = M /\ h = H)
  (hk : ZGw np args xs pre h fun l => (l.length = np /\ l.all (fun j => decide (j < n)) = true /\ xs = args.map (AV.ren (ren1 l n)) /\ ZBS (ren1 l n) h pre /\ ZBv (ren1 l n) pre = true /\ ZEo (ren2 l n) M H = true) /\
   K (X.ren (ren2 l n)) (renH (ren2 l n) H ++ tomb (ren1 l n) pre) (n + (M - np))) : CallP G f xs h n K := by
 subst hP
 obtain ⟨l, ⟨h1, h2, h3, h4, h5, h6⟩, h7⟩ := ZEB hk
 exact ZF3 hsp l h1 h2 h3 h4 h5 h6 h7
theorem ZAB (hP : G.P = P) (hsp : ZAH P f pre np args fun x h m => x = X /\ m = M /\ h = H)
  (hk : ZGw np args xs pre h fun l => (l.length = np /\ l.all (fun j => decide (j < n)) = true /\ xs = args.map (AV.ren (ren1 l n)) /\ ZBS (ren1 l n) h pre /\ ZBv (ren1 l n) pre = true /\ ZEo (ren2 l n) M H = true) /\
   K (X.ren (ren2 l n)) (renH (ren2 l n) H ++ tomb (ren1 l n) pre) (n + (M - np))) : CallD G f xs h n K := by
 subst hP
 obtain ⟨l, ⟨h1, h2, h3, h4, h5, h6⟩, h7⟩ := ZEB hk
 exact ZMc hsp l h1 h2 h3 h4 h5 h6 h7
end
theorem ZAC {np : Nat} {x : SV} {h : Heap} {n : Nat} {X : SV} {M : Nat} {H : Heap} (hk : ZOT np M X x H h fun l => l.length = M /\ ZIZ l np = true /\ l.all (fun j => decide (j < n)) = true /\ x = X.ren (ren1 l n) /\ ZBS (ren1 l n) h H /\ ZBv (ren1 l n) H = true) :
  FinP np x h n fun x h m => x = X /\ m = M /\ h = H := by
 obtain ⟨l, h0, h1, h2, h3, h4, h5⟩ := ZOW hk
 exact ZCs l X H M h0 ⟨rfl, rfl, rfl⟩ h1 h2 h3 h4 h5
theorem ZAU {G : Ctx} {np : Nat} (hA : G.A = np) {r : Regs} {h : Heap} {n : Nat} {r' : Regs} {h' : Heap} {n' : Nat}
  (hk : ZOS np n' r' r h' h fun l => l.length = n' /\ ZIZ l np = true /\ l.all (fun j => decide (j < n)) = true /\ ZFb (ren1 l n) r r' /\ ZBS (ren1 l n) h h' /\ ZBv (ren1 l n) h' = true) : Imp G r h n r' h' n' := by
 obtain ⟨l, h0, h1, h2, h3, h4, h5⟩ := ZOV hk
 exact ZAW hA l h0 h1 h2 h3 h4 h5
def wrO : List IOp -> List Nat -> List Nat
 | [], l => l
 | o :: os, l => match o.dst with | some d => wrO os (d :: l) | none => wrO os l
def wrC : IC -> List Nat -> List Nat
 | .skip, l => l
 | .reg ops, l => wrO ops l
 | .draw ops _, l => wrO ops l
 | .seq a b, l => wrC b (wrC a l)
 | .jn a b, l => wrC b (wrC a l)
 | .cond _ a b, l => wrC b (wrC a l)
 | .blk _ b, l => wrC b l
 | .loop b, l => wrC b l
 | .exit _, l => l
 | .ret, l => l
def memB : Nat -> List Nat -> Bool
 | _, [] => false
 | k, j :: l => bif Nat.beq k j then true else memB k l
def ZHC : List Nat -> Regs -> Regs
 | _, [] => []
 | w, (t, x) :: r => bif memB t w then ZHC w r else (t, x) :: ZHC (t :: w) r
def ZGx : List Nat -> Heap -> Heap
 | _, [] => []
 | w, (k, some e) :: h => bif memB k w then ZGx w h else (k, some e) :: ZGx (k :: w) h
 | w, (k, none) :: h => ZGx (k :: w) h
def ZIf : Regs -> List Nat -> List Nat
 | [], l => l
 | (t, _) :: r, l => ZIf r (t :: l)
def ZIg : Heap -> List Nat -> List Nat
 | [], l => l
 | (k, _) :: h, l => ZIg h (k :: l)
def ZIh : Regs -> (Regs -> Prop) -> Prop
 | [], K => K []
 | (t, x) :: r, K => natK t fun t => svK x fun x => ZIh r fun r => K ((t, x) :: r)
theorem ZLn (r : Regs) (K : Regs -> Prop) : ZIh r K = K r := by
 induction r generalizing K with
 | nil => rfl
 | cons e u ih => obtain ⟨k, e⟩ := e; simp [ZIh, ZBb, ZFA, ih]
def ZOX : IC -> Bool
 | .loop _ => true
 | _ => false
section
variable {G : Ctx}
theorem ZAn {α : Type} {b : IC} {r : Regs} {h : Heap} {n : Nat} {K : X -> Regs -> Heap -> Nat -> Prop} {ds : List Nat} (N : Nat) (R : α -> Regs) (ks : List Nat) (H : α -> Heap) (I : α -> Prop) (μ : α -> Nat) (x0 : α) (hI : I x0)
  (h0 : ZG7 (wrC b ds) fun w => ZIh (R x0 ++ ZHC (ZIf (R x0) w) r) fun r1 => ZFS (H x0 ++ ZGx (ZIg (H x0) ks) h) fun h1 => Imp G r h n r1 h1 N)
  (hr : ∀ x, I x -> ZG7 (wrC b ds) fun w => ZIh (R x ++ ZHC (ZIf (R x) w) r) fun r1 => ZFS (H x ++ ZGx (ZIg (H x) ks) h) fun h1 => evC (CallP G) (InvP G) (EscP G) (LoopP G) (DrawP G) b r1 h1 N fun e r' h' n' => match e with
   | .nrm => ∃ y, I y /\ μ y < μ x /\ ZIh (R y ++ ZHC (ZIf (R y) w) r) fun r1 => ZFS (H y ++ ZGx (ZIg (H y) ks) h) fun h1 => Imp G r' h' n' r1 h1 N
   | .ex id => K (.ex id) r' h' n'
   | .ret => K .ret r' h' n') (hb : ZOX b = false := by rfl) : LoopP G b r h n K := by
 simp only [ZE9, ZLn, ZCU] at h0 hr
 exact ZKx (fun x => R x ++ ZHC (ZIf (R x) (wrC b ds)) r) (fun x => H x ++ ZGx (ZIg (H x) ks) h) (fun _ => N) I μ x0 hI h0 hr (by cases b <;> first | rfl | cases hb)
end
end Go.Sx
