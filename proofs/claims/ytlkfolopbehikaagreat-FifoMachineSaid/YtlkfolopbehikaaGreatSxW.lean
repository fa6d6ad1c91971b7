/- part -/
import Derived.Test.YtlkfolopbehikaaGreatSxT
set_option linter.unusedSimpArgs false
set_option linter.unusedVariables false
set_option linter.unusedSectionVars false
namespace Go.Sx
open Go
abbrev Bd := List (Option Nat)
def bdK : Bd -> (Bd -> Prop) -> Prop
 | [], K => K []
 | none :: l, K => bdK l fun l => K (none :: l)
 | some k :: l, K => natK k fun k => bdK l fun l => K (some k :: l)
theorem ZKR (l : Bd) (K : Bd -> Prop) : bdK l K = K l := by
 induction l generalizing K with
 | nil => rfl
 | cons x l ih => cases x <;> simp [bdK, ih, ZBP]
def bset : Bd -> Nat -> Nat -> Bd
 | [], _, _ => []
 | some i :: l, 0, _ => some i :: l
 | none :: l, 0, j => some j :: l
 | b :: l, k + 1, j => b :: bset l k j
def mNs : List Nat -> List Nat -> Bd -> (Bd -> Prop) -> Prop
 | k :: ks, j :: js, l, K => bdK (bset l k j) fun l => mNs ks js l K
 | _, _, l, K => K l
def mLV (p x : LV) (l : Bd) (K : Bd -> Prop) : Prop := match p, x with
 | .p k _ _ _, .p j _ _ _ => bdK (bset l k j) K
 | .s k _ _ _ _, .s j _ _ _ _ => bdK (bset l k j) K
 | .i _ k, .i _ j => bdK (bset l k j) K
 | .c _ ks, .c _ js => mNs ks js l K
 | .fp k _ _ _ _, .fp j _ _ _ _ => bdK (bset l k j) K
 | .mref k, .mref j => bdK (bset l k j) K
 | .stmp k, .stmp j => bdK (bset l k j) K
 | .fs k _ _ _ _ _, .fs j _ _ _ _ _ => bdK (bset l k j) K
 | _, _ => K l
def mLVs : List LV -> List LV -> Bd -> (Bd -> Prop) -> Prop
 | p :: ps, x :: xs, l, K => mLV p x l fun l => mLVs ps xs l K
 | _, _, l, K => K l
def mAV (p x : AV) (l : Bd) (K : Bd -> Prop) : Prop := match p, x with
 | .l p, .l x => mLV p x l K
 | .a ps, .a xs => mLVs ps xs l K
 | _, _ => K l
def mAVs : List AV -> List AV -> Bd -> (Bd -> Prop) -> Prop
 | p :: ps, x :: xs, l, K => mAV p x l fun l => mAVs ps xs l K
 | _, _, l, K => K l
def mSV (p x : SV) (l : Bd) (K : Bd -> Prop) : Prop := match p, x with
 | .o p, .o x => mAV p x l K
 | .t ps, .t xs => mAVs ps xs l K
 | _, _ => K l
def ZNY : Regs -> Regs -> Bd -> (Bd -> Prop) -> Prop
 | [], _, l, K => K l
 | (_, .o (.l (.v _))) :: ps, r, l, K => ZNY ps r l K
 | (t, p) :: ps, r, l, K => match rget r t with
  | some x => mSV p x l fun l => ZNY ps r l K
  | none => ZNY ps r l K
def ZHV : Heap -> Heap -> Bd -> (Bd -> Prop) -> Prop
 | [], _, l, K => K l
 | (k, some (.st ps)) :: hs, h, l, K => match nth l k with
   | some (some j) => match hget h j with
    | some (.st xs) => mLVs ps xs l fun l => ZHV hs h l K
    | _ => ZHV hs h l K
   | _ => ZHV hs h l K
 | (k, some (.ob ps _)) :: hs, h, l, K => match nth l k with
   | some (some j) => match hget h j with
    | some (.ob xs _) => mNs ps xs l fun l => ZHV hs h l K
    | _ => ZHV hs h l K
   | _ => ZHV hs h l K
 | _ :: hs, h, l, K => ZHV hs h l K
def ZNZ : Nat -> Heap -> Heap -> Bd -> (Bd -> Prop) -> Prop
 | 0, _, _, l, K => K l
 | m + 1, p, h, l, K => ZHV p h l fun l => ZNZ m p h l K
def bd0 : Nat -> Nat -> Nat -> Bd
 | 0, _, _ => []
 | m + 1, 0, k => none :: bd0 m 0 (k + 1)
 | m + 1, np + 1, k => some k :: bd0 m np (k + 1)
def unB : Bd -> List Nat
 | [] => []
 | some j :: l => j :: unB l
 | none :: l => 0 :: unB l
def outB (K : List Nat -> Prop) (l : Bd) : Prop := ZHR (unB l) K
def ZG9 (np : Nat) (args xs : List AV) (pre h : Heap) (K : List Nat -> Prop) : Prop := bdK (bd0 np 0 0) fun l => mAVs args xs l fun l => ZNZ 3 pre h l (outB K)
def ZPN (np m : Nat) (R r : Regs) (H h : Heap) (K : List Nat -> Prop) : Prop := bdK (bd0 m np 0) fun l => ZNY R r l fun l => ZNZ 3 H h l (outB K)
def ZPO (np m : Nat) (X x : SV) (H h : Heap) (K : List Nat -> Prop) : Prop := bdK (bd0 m np 0) fun l => mSV X x l fun l => ZNZ 3 H h l (outB K)
theorem ZPP : ∀ (ks js : List Nat) (l : Bd) (K : Bd -> Prop), mNs ks js l K -> ∃ l, K l
 | k :: ks, j :: js, l, K, h => by simp only [mNs, ZKR] at h; exact ZPP ks js _ K h
 | [], _, l, K, h => ⟨l, by simpa [mNs] using h⟩
 | _ :: _, [], l, K, h => ⟨l, by simpa [mNs] using h⟩
theorem ZQc (p x : LV) (l : Bd) (K : Bd -> Prop) (h : mLV p x l K) : ∃ l, K l := by
 unfold mLV at h
 split at h <;> first | (rw [ZKR] at h; exact ⟨_, h⟩) | exact ZPP _ _ _ _ h | exact ⟨_, h⟩
theorem ZLh : ∀ (ps xs : List LV) (l : Bd) (K : Bd -> Prop), mLVs ps xs l K -> ∃ l, K l
 | p :: ps, x :: xs, l, K, h => by simp only [mLVs] at h; obtain ⟨l, h⟩ := ZQc _ _ _ _ h; exact ZLh ps xs _ K h
 | [], _, l, K, h => ⟨l, by simpa [mLVs] using h⟩
 | _ :: _, [], l, K, h => ⟨l, by simpa [mLVs] using h⟩
theorem ZQd (p x : AV) (l : Bd) (K : Bd -> Prop) (h : mAV p x l K) : ∃ l, K l := by
 unfold mAV at h
 split at h
 ·exact ZQc _ _ _ _ h
 ·exact ZLh _ _ _ _ h
 ·exact ⟨_, h⟩
theorem ZLi : ∀ (ps xs : List AV) (l : Bd) (K : Bd -> Prop), mAVs ps xs l K -> ∃ l, K l
 | p :: ps, x :: xs, l, K, h => by simp only [mAVs] at h; obtain ⟨l, h⟩ := ZQd _ _ _ _ h; exact ZLi ps xs _ K h
 | [], _, l, K, h => ⟨l, by simpa [mAVs] using h⟩
 | _ :: _, [], l, K, h => ⟨l, by simpa [mAVs] using h⟩
theorem ZQe (p x : SV) (l : Bd) (K : Bd -> Prop) (h : mSV p x l K) : ∃ l, K l := by
 unfold mSV at h
 split at h
 ·exact ZQd _ _ _ _ h
 ·exact ZLi _ _ _ _ h
 ·exact ⟨_, h⟩
theorem ZGO : ∀ (ps r : Regs) (l : Bd) (K : Bd -> Prop), ZNY ps r l K -> ∃ l, K l
 | [], r, l, K, h => ⟨l, h⟩
 | (t, p) :: ps, r, l, K, h => by
  unfold ZNY at h
  split at h
  ·exact ⟨_, h⟩
  ·rename_i heq; cases heq; exact ZGO _ _ _ _ h
  ·rename_i heq; cases heq
   split at h
   ·obtain ⟨l, h⟩ := ZQe _ _ _ _ h; exact ZGO _ _ _ _ h
   ·exact ZGO _ _ _ _ h
theorem ZDH : ∀ (hs h : Heap) (l : Bd) (K : Bd -> Prop), ZHV hs h l K -> ∃ l, K l
 | [], h, l, K, hk => ⟨l, hk⟩
 | e :: hs, h, l, K, hk => by
  unfold ZHV at hk
  split at hk
  ·exact ⟨_, hk⟩
  ·rename_i heq; cases heq
   split at hk
   ·split at hk
    ·obtain ⟨l, hk⟩ := ZLh _ _ _ _ hk; exact ZDH _ _ _ _ hk
    ·exact ZDH _ _ _ _ hk
   ·exact ZDH _ _ _ _ hk
  ·rename_i heq; cases heq
   split at hk
   ·split at hk
    ·obtain ⟨l, hk⟩ := ZPP _ _ _ _ hk; exact ZDH _ _ _ _ hk
    ·exact ZDH _ _ _ _ hk
   ·exact ZDH _ _ _ _ hk
  ·rename_i heq; cases heq; exact ZDH _ _ _ _ hk
theorem ZGP : ∀ (m : Nat) (p h : Heap) (l : Bd) (K : Bd -> Prop), ZNZ m p h l K -> ∃ l, K l
 | 0, p, h, l, K, hk => ⟨l, hk⟩
 | m + 1, p, h, l, K, hk => by simp only [ZNZ] at hk; obtain ⟨l, hk⟩ := ZDH _ _ _ _ hk; exact ZGP m p h _ K hk
theorem ZLj {K : List Nat -> Prop} {l : Bd} (h : outB K l) : ∃ l, K l := by simp only [outB, ZFO] at h; exact ⟨_, h⟩
theorem ZEH {np : Nat} {args xs : List AV} {pre h : Heap} {K : List Nat -> Prop} (hk : ZG9 np args xs pre h K) : ∃ l, K l := by
 simp only [ZG9, ZKR] at hk
 obtain ⟨l, hk⟩ := ZLi _ _ _ _ hk
 obtain ⟨l, hk⟩ := ZGP _ _ _ _ _ hk
 exact ZLj hk
theorem ZPQ {np m : Nat} {R r : Regs} {H h : Heap} {K : List Nat -> Prop} (hk : ZPN np m R r H h K) : ∃ l, K l := by
 simp only [ZPN, ZKR] at hk
 obtain ⟨l, hk⟩ := ZGO _ _ _ _ hk
 obtain ⟨l, hk⟩ := ZGP _ _ _ _ _ hk
 exact ZLj hk
theorem ZPR {np m : Nat} {X x : SV} {H h : Heap} {K : List Nat -> Prop} (hk : ZPO np m X x H h K) : ∃ l, K l := by
 simp only [ZPO, ZKR] at hk
 obtain ⟨l, hk⟩ := ZQe _ _ _ _ hk
 obtain ⟨l, hk⟩ := ZGP _ _ _ _ _ hk
 exact ZLj hk
section
variable {P : Program} {G : Ctx} {f : FuncId} {pre : Heap} {np : Nat} {args : List AV} {X : SV} {M : Nat} {H : Heap} {xs : List AV} {h : Heap} {n : Nat} {K : SV -> Heap -> Nat -> Prop}
theorem ZBx (hP : G.P = P) (hsp : ZAE P f pre np args fun x h m => x = X /\ m = M /\ h = H)
  (hk : ZG9 np args xs pre h fun l => (l.length = np /\ l.all (fun j => decide (j < n)) = true /\ xs = args.map (AV.ren (ren1 l n)) /\ ZBB (ren1 l n) h pre /\ ZBv (ren1 l n) pre = true /\ ZEv (ren2 l n) M H = true) /\
   K (X.ren (ren2 l n)) (renH (ren2 l n) H ++ tomb (ren1 l n) pre) (n + (M - np))) : CallP G f xs h n K := by
 subst hP
 obtain ⟨l, ⟨h1, h2, h3, h4, h5, h6⟩, h7⟩ := ZEH hk
 exact ZGN hsp l h1 h2 h3 h4 h5 h6 h7
theorem ZBO (hP : G.P = P) (hsp : ZAE P f pre np args fun x h m => x = X /\ m = M /\ h = H)
  (hk : ZG9 np args xs pre h fun l => (l.length = np /\ l.all (fun j => decide (j < n)) = true /\ xs = args.map (AV.ren (ren1 l n)) /\ ZBB (ren1 l n) h pre /\ ZBv (ren1 l n) pre = true /\ ZEv (ren2 l n) M H = true) /\
   K (X.ren (ren2 l n)) (renH (ren2 l n) H ++ tomb (ren1 l n) pre) (n + (M - np))) : CallD G f xs h n K := by
 subst hP
 obtain ⟨l, ⟨h1, h2, h3, h4, h5, h6⟩, h7⟩ := ZEH hk
 exact ZNS hsp l h1 h2 h3 h4 h5 h6 h7
end
theorem ZGQ {np : Nat} {x : SV} {h : Heap} {n : Nat} {X : SV} {M : Nat} {H : Heap} (hk : ZPO np M X x H h fun l => l.length = M /\ ZI2 l np = true /\ l.all (fun j => decide (j < n)) = true /\ x = X.ren (ren1 l n) /\ ZBB (ren1 l n) h H /\ ZBv (ren1 l n) H = true) :
  FinP np x h n fun x h m => x = X /\ m = M /\ h = H := by
 obtain ⟨l, h0, h1, h2, h3, h4, h5⟩ := ZPR hk
 exact ZCl l X H M h0 ⟨rfl, rfl, rfl⟩ h1 h2 h3 h4 h5
theorem ZMQ {G : Ctx} {np : Nat} (hA : G.A = np) {r : Regs} {h : Heap} {n : Nat} {r' : Regs} {h' : Heap} {n' : Nat}
  (hk : ZPN np n' r' r h' h fun l => l.length = n' /\ ZI2 l np = true /\ l.all (fun j => decide (j < n)) = true /\ ZFu (ren1 l n) r r' /\ ZBB (ren1 l n) h h' /\ ZBv (ren1 l n) h' = true) : Imp G r h n r' h' n' := by
 obtain ⟨l, h0, h1, h2, h3, h4, h5⟩ := ZPQ hk
 exact ZEF hA l h0 h1 h2 h3 h4 h5
def wrO : List IOp -> List Nat -> List Nat
 | [], l => l
 | o :: os, l => match o.dst with | some d => wrO os (d :: l) | none => wrO os l
def wrC : IC -> List Nat -> List Nat
 | .skip, l => l
 | .reg ops, l => wrO ops l
 | .draw ops _, l => wrO ops l
 | .seq a b, l => wrC b (wrC a l)
 | .jn a b, l => wrC b (wrC a l)
 | .cond _ a b, l => wrC b (wrC a l)
 | .blk _ b, l => wrC b l
 | .loop b, l => wrC b l
 | .exit _, l => l
 | .ret, l => l
def memB : Nat -> List Nat -> Bool
 | _, [] => false
 | k, j :: l => bif Nat.beq k j then true else memB k l
def ZHW : List Nat -> Regs -> Regs
 | _, [] => []
 | w, (t, x) :: r => bif memB t w then ZHW w r else (t, x) :: ZHW (t :: w) r
def ZHA : List Nat -> Heap -> Heap
 | _, [] => []
 | w, (k, some e) :: h => bif memB k w then ZHA w h else (k, some e) :: ZHA (k :: w) h
 | w, (k, none) :: h => ZHA (k :: w) h
def ZI7 : Regs -> List Nat -> List Nat
 | [], l => l
 | (t, _) :: r, l => ZI7 r (t :: l)
def ZI8 : Heap -> List Nat -> List Nat
 | [], l => l
 | (k, _) :: h, l => ZI8 h (k :: l)
def ZI9 : Regs -> (Regs -> Prop) -> Prop
 | [], K => K []
 | (t, x) :: r, K => natK t fun t => svK x fun x => ZI9 r fun r => K ((t, x) :: r)
theorem ZMR (r : Regs) (K : Regs -> Prop) : ZI9 r K = K r := by
 induction r generalizing K with
 | nil => rfl
 | cons e u ih => obtain ⟨k, e⟩ := e; simp [ZI9, ZBP, ZFP, ih]
def ZPS : IC -> Bool
 | .loop _ => true
 | _ => false
section
variable {G : Ctx}
theorem ZAg {α : Type} {b : IC} {r : Regs} {h : Heap} {n : Nat} {K : X -> Regs -> Heap -> Nat -> Prop} {ds : List Nat} (N : Nat) (R : α -> Regs) (ks : List Nat) (H : α -> Heap) (I : α -> Prop) (μ : α -> Nat) (x0 : α) (hI : I x0)
  (h0 : ZHR (wrC b ds) fun w => ZI9 (R x0 ++ ZHW (ZI7 (R x0) w) r) fun r1 => ZFm (H x0 ++ ZHA (ZI8 (H x0) ks) h) fun h1 => Imp G r h n r1 h1 N)
  (hr : ∀ x, I x -> ZHR (wrC b ds) fun w => ZI9 (R x ++ ZHW (ZI7 (R x) w) r) fun r1 => ZFm (H x ++ ZHA (ZI8 (H x) ks) h) fun h1 => evC (CallP G) (InvP G) (EscP G) (LoopP G) (DrawP G) b r1 h1 N fun e r' h' n' => match e with
   | .nrm => ∃ y, I y /\ μ y < μ x /\ ZI9 (R y ++ ZHW (ZI7 (R y) w) r) fun r1 => ZFm (H y ++ ZHA (ZI8 (H y) ks) h) fun h1 => Imp G r' h' n' r1 h1 N
   | .ex id => K (.ex id) r' h' n'
   | .ret => K .ret r' h' n') (hb : ZPS b = false := by rfl) : LoopP G b r h n K := by
 simp only [ZFO, ZMR, ZCL] at h0 hr
 exact ZLS (fun x => R x ++ ZHW (ZI7 (R x) (wrC b ds)) r) (fun x => H x ++ ZHA (ZI8 (H x) ks) h) (fun _ => N) I μ x0 hI h0 hr (by cases b <;> first | rfl | cases hb)
end
end Go.Sx
