/- part -/
import Derived.Test.YtlkfolopbehikaaGreatSxT
set_option linter.unusedSimpArgs false
set_option linter.unusedVariables false
set_option linter.unusedSectionVars false
namespace Go.Sx
open Go
abbrev Bd := List (Option Nat)
def bdK : Bd -> (Bd -> Prop) -> Prop
 | [], K => K []
 | none :: l, K => bdK l fun l => K (none :: l)
 | some k :: l, K => natK k fun k => bdK l fun l => K (some k :: l)
theorem ZJ4 (l : Bd) (K : Bd -> Prop) : bdK l K = K l := by
 induction l generalizing K with
 | nil => rfl
 | cons x l ih => cases x <;> simp [bdK, ih, ZBU]
def bset : Bd -> Nat -> Nat -> Bd
 | [], _, _ => []
 | some i :: l, 0, _ => some i :: l
 | none :: l, 0, j => some j :: l
 | b :: l, k + 1, j => b :: bset l k j
def mNs : List Nat -> List Nat -> Bd -> (Bd -> Prop) -> Prop
 | k :: ks, j :: js, l, K => bdK (bset l k j) fun l => mNs ks js l K
 | _, _, l, K => K l
def mLV (p x : LV) (l : Bd) (K : Bd -> Prop) : Prop := match p, x with
 | .p k _ _ _, .p j _ _ _ => bdK (bset l k j) K
 | .s k _ _ _ _, .s j _ _ _ _ => bdK (bset l k j) K
 | .i _ k, .i _ j => bdK (bset l k j) K
 | .c _ ks, .c _ js => mNs ks js l K
 | .fp k _ _ _ _, .fp j _ _ _ _ => bdK (bset l k j) K
 | .mref k, .mref j => bdK (bset l k j) K
 | .stmp k, .stmp j => bdK (bset l k j) K
 | .fs k _ _ _ _ _, .fs j _ _ _ _ _ => bdK (bset l k j) K
 | _, _ => K l
def mLVs : List LV -> List LV -> Bd -> (Bd -> Prop) -> Prop
 | p :: ps, x :: xs, l, K => mLV p x l fun l => mLVs ps xs l K
 | _, _, l, K => K l
def mAV (p x : AV) (l : Bd) (K : Bd -> Prop) : Prop := match p, x with
 | .l p, .l x => mLV p x l K
 | .a ps, .a xs => mLVs ps xs l K
 | _, _ => K l
def mAVs : List AV -> List AV -> Bd -> (Bd -> Prop) -> Prop
 | p :: ps, x :: xs, l, K => mAV p x l fun l => mAVs ps xs l K
 | _, _, l, K => K l
def mSV (p x : SV) (l : Bd) (K : Bd -> Prop) : Prop := match p, x with
 | .o p, .o x => mAV p x l K
 | .t ps, .t xs => mAVs ps xs l K
 | _, _ => K l
def ZMo : Regs -> Regs -> Bd -> (Bd -> Prop) -> Prop
 | [], _, l, K => K l
 | (_, .o (.l (.v _))) :: ps, r, l, K => ZMo ps r l K
 | (t, p) :: ps, r, l, K => match rget r t with
  | some x => mSV p x l fun l => ZMo ps r l K
  | none => ZMo ps r l K
def ZHC : Heap -> Heap -> Bd -> (Bd -> Prop) -> Prop
 | [], _, l, K => K l
 | (k, some (.st ps)) :: hs, h, l, K => match nth l k with
   | some (some j) => match hget h j with
    | some (.st xs) => mLVs ps xs l fun l => ZHC hs h l K
    | _ => ZHC hs h l K
   | _ => ZHC hs h l K
 | (k, some (.ob ps _)) :: hs, h, l, K => match nth l k with
   | some (some j) => match hget h j with
    | some (.ob xs _) => mNs ps xs l fun l => ZHC hs h l K
    | _ => ZHC hs h l K
   | _ => ZHC hs h l K
 | _ :: hs, h, l, K => ZHC hs h l K
def ZMp : Nat -> Heap -> Heap -> Bd -> (Bd -> Prop) -> Prop
 | 0, _, _, l, K => K l
 | m + 1, p, h, l, K => ZHC p h l fun l => ZMp m p h l K
def bd0 : Nat -> Nat -> Nat -> Bd
 | 0, _, _ => []
 | m + 1, 0, k => none :: bd0 m 0 (k + 1)
 | m + 1, np + 1, k => some k :: bd0 m np (k + 1)
def unB : Bd -> List Nat
 | [] => []
 | some j :: l => j :: unB l
 | none :: l => 0 :: unB l
def outB (K : List Nat -> Prop) (l : Bd) : Prop := ZG8 (unB l) K
def ZGw (np : Nat) (args xs : List AV) (pre h : Heap) (K : List Nat -> Prop) : Prop := bdK (bd0 np 0 0) fun l => mAVs args xs l fun l => ZMp 3 pre h l (outB K)
def ZOa (np m : Nat) (R r : Regs) (H h : Heap) (K : List Nat -> Prop) : Prop := bdK (bd0 m np 0) fun l => ZMo R r l fun l => ZMp 3 H h l (outB K)
def ZOb (np m : Nat) (X x : SV) (H h : Heap) (K : List Nat -> Prop) : Prop := bdK (bd0 m np 0) fun l => mSV X x l fun l => ZMp 3 H h l (outB K)
theorem ZOc : ∀ (ks js : List Nat) (l : Bd) (K : Bd -> Prop), mNs ks js l K -> ∃ l, K l
 | k :: ks, j :: js, l, K, h => by simp only [mNs, ZJ4] at h; exact ZOc ks js _ K h
 | [], _, l, K, h => ⟨l, by simpa [mNs] using h⟩
 | _ :: _, [], l, K, h => ⟨l, by simpa [mNs] using h⟩
theorem ZPb (p x : LV) (l : Bd) (K : Bd -> Prop) (h : mLV p x l K) : ∃ l, K l := by
 unfold mLV at h
 split at h <;> first | (rw [ZJ4] at h; exact ⟨_, h⟩) | exact ZOc _ _ _ _ h | exact ⟨_, h⟩
theorem ZLF : ∀ (ps xs : List LV) (l : Bd) (K : Bd -> Prop), mLVs ps xs l K -> ∃ l, K l
 | p :: ps, x :: xs, l, K, h => by simp only [mLVs] at h; obtain ⟨l, h⟩ := ZPb _ _ _ _ h; exact ZLF ps xs _ K h
 | [], _, l, K, h => ⟨l, by simpa [mLVs] using h⟩
 | _ :: _, [], l, K, h => ⟨l, by simpa [mLVs] using h⟩
theorem ZPc (p x : AV) (l : Bd) (K : Bd -> Prop) (h : mAV p x l K) : ∃ l, K l := by
 unfold mAV at h
 split at h
 ·exact ZPb _ _ _ _ h
 ·exact ZLF _ _ _ _ h
 ·exact ⟨_, h⟩
theorem ZLG : ∀ (ps xs : List AV) (l : Bd) (K : Bd -> Prop), mAVs ps xs l K -> ∃ l, K l
 | p :: ps, x :: xs, l, K, h => by simp only [mAVs] at h; obtain ⟨l, h⟩ := ZPc _ _ _ _ h; exact ZLG ps xs _ K h
 | [], _, l, K, h => ⟨l, by simpa [mAVs] using h⟩
 | _ :: _, [], l, K, h => ⟨l, by simpa [mAVs] using h⟩
theorem ZPd (p x : SV) (l : Bd) (K : Bd -> Prop) (h : mSV p x l K) : ∃ l, K l := by
 unfold mSV at h
 split at h
 ·exact ZPc _ _ _ _ h
 ·exact ZLG _ _ _ _ h
 ·exact ⟨_, h⟩
theorem ZF2 : ∀ (ps r : Regs) (l : Bd) (K : Bd -> Prop), ZMo ps r l K -> ∃ l, K l
 | [], r, l, K, h => ⟨l, h⟩
 | (t, p) :: ps, r, l, K, h => by
  unfold ZMo at h
  split at h
  ·exact ⟨_, h⟩
  ·rename_i heq; cases heq; exact ZF2 _ _ _ _ h
  ·rename_i heq; cases heq
   split at h
   ·obtain ⟨l, h⟩ := ZPd _ _ _ _ h; exact ZF2 _ _ _ _ h
   ·exact ZF2 _ _ _ _ h
theorem ZDJ : ∀ (hs h : Heap) (l : Bd) (K : Bd -> Prop), ZHC hs h l K -> ∃ l, K l
 | [], h, l, K, hk => ⟨l, hk⟩
 | e :: hs, h, l, K, hk => by
  unfold ZHC at hk
  split at hk
  ·exact ⟨_, hk⟩
  ·rename_i heq; cases heq
   split at hk
   ·split at hk
    ·obtain ⟨l, hk⟩ := ZLF _ _ _ _ hk; exact ZDJ _ _ _ _ hk
    ·exact ZDJ _ _ _ _ hk
   ·exact ZDJ _ _ _ _ hk
  ·rename_i heq; cases heq
   split at hk
   ·split at hk
    ·obtain ⟨l, hk⟩ := ZOc _ _ _ _ hk; exact ZDJ _ _ _ _ hk
    ·exact ZDJ _ _ _ _ hk
   ·exact ZDJ _ _ _ _ hk
  ·rename_i heq; cases heq; exact ZDJ _ _ _ _ hk
theorem ZF3 : ∀ (m : Nat) (p h : Heap) (l : Bd) (K : Bd -> Prop), ZMp m p h l K -> ∃ l, K l
 | 0, p, h, l, K, hk => ⟨l, hk⟩
 | m + 1, p, h, l, K, hk => by simp only [ZMp] at hk; obtain ⟨l, hk⟩ := ZDJ _ _ _ _ hk; exact ZF3 m p h _ K hk
theorem ZLH {K : List Nat -> Prop} {l : Bd} (h : outB K l) : ∃ l, K l := by simp only [outB, ZE5] at h; exact ⟨_, h⟩
theorem ZD5 {np : Nat} {args xs : List AV} {pre h : Heap} {K : List Nat -> Prop} (hk : ZGw np args xs pre h K) : ∃ l, K l := by
 simp only [ZGw, ZJ4] at hk
 obtain ⟨l, hk⟩ := ZLG _ _ _ _ hk
 obtain ⟨l, hk⟩ := ZF3 _ _ _ _ _ hk
 exact ZLH hk
theorem ZOd {np m : Nat} {R r : Regs} {H h : Heap} {K : List Nat -> Prop} (hk : ZOa np m R r H h K) : ∃ l, K l := by
 simp only [ZOa, ZJ4] at hk
 obtain ⟨l, hk⟩ := ZF2 _ _ _ _ hk
 obtain ⟨l, hk⟩ := ZF3 _ _ _ _ _ hk
 exact ZLH hk
theorem ZOe {np m : Nat} {X x : SV} {H h : Heap} {K : List Nat -> Prop} (hk : ZOb np m X x H h K) : ∃ l, K l := by
 simp only [ZOb, ZJ4] at hk
 obtain ⟨l, hk⟩ := ZPd _ _ _ _ hk
 obtain ⟨l, hk⟩ := ZF3 _ _ _ _ _ hk
 exact ZLH hk
section
variable {P : Program} {G : Ctx} {f : FuncId} {pre : Heap} {np : Nat} {args : List AV} {X : SV} {M : Nat} {H : Heap} {xs : List AV} {h : Heap} {n : Nat} {K : SV -> Heap -> Nat -> Prop}
theorem ZBr (hP : G.P = P) (hsp : ZAC P f pre np args fun x h m => x = X /\ m = M /\ h = H)
  (hk : ZGw np args xs pre h fun l => (l.length = np /\ l.all (fun j => decide (j < n)) = true /\ xs = args.map (AV.ren (ren1 l n)) /\ ZBJ (ren1 l n) h pre /\ ZBo (ren1 l n) pre = true /\ ZEj (ren2 l n) M H = true) /\
   K (X.ren (ren2 l n)) (renH (ren2 l n) H ++ tomb (ren1 l n) pre) (n + (M - np))) : CallP G f xs h n K := by
 subst hP
 obtain ⟨l, ⟨h1, h2, h3, h4, h5, h6⟩, h7⟩ := ZD5 hk
 exact ZF1 hsp l h1 h2 h3 h4 h5 h6 h7
theorem ZBT (hP : G.P = P) (hsp : ZAC P f pre np args fun x h m => x = X /\ m = M /\ h = H)
  (hk : ZGw np args xs pre h fun l => (l.length = np /\ l.all (fun j => decide (j < n)) = true /\ xs = args.map (AV.ren (ren1 l n)) /\ ZBJ (ren1 l n) h pre /\ ZBo (ren1 l n) pre = true /\ ZEj (ren2 l n) M H = true) /\
   K (X.ren (ren2 l n)) (renH (ren2 l n) H ++ tomb (ren1 l n) pre) (n + (M - np))) : CallD G f xs h n K := by
 subst hP
 obtain ⟨l, ⟨h1, h2, h3, h4, h5, h6⟩, h7⟩ := ZD5 hk
 exact ZMi hsp l h1 h2 h3 h4 h5 h6 h7
end
theorem ZF4 {np : Nat} {x : SV} {h : Heap} {n : Nat} {X : SV} {M : Nat} {H : Heap} (hk : ZOb np M X x H h fun l => l.length = M /\ ZIa l np = true /\ l.all (fun j => decide (j < n)) = true /\ x = X.ren (ren1 l n) /\ ZBJ (ren1 l n) h H /\ ZBo (ren1 l n) H = true) :
  FinP np x h n fun x h m => x = X /\ m = M /\ h = H := by
 obtain ⟨l, h0, h1, h2, h3, h4, h5⟩ := ZOe hk
 exact ZCm l X H M h0 ⟨rfl, rfl, rfl⟩ h1 h2 h3 h4 h5
theorem ZLt {G : Ctx} {np : Nat} (hA : G.A = np) {r : Regs} {h : Heap} {n : Nat} {r' : Regs} {h' : Heap} {n' : Nat}
  (hk : ZOa np n' r' r h' h fun l => l.length = n' /\ ZIa l np = true /\ l.all (fun j => decide (j < n)) = true /\ ZFZ (ren1 l n) r r' /\ ZBJ (ren1 l n) h h' /\ ZBo (ren1 l n) h' = true) : Imp G r h n r' h' n' := by
 obtain ⟨l, h0, h1, h2, h3, h4, h5⟩ := ZOd hk
 exact ZAR hA l h0 h1 h2 h3 h4 h5
def wrO : List IOp -> List Nat -> List Nat
 | [], l => l
 | o :: os, l => match o.dst with | some d => wrO os (d :: l) | none => wrO os l
def wrC : IC -> List Nat -> List Nat
 | .skip, l => l
 | .reg ops, l => wrO ops l
 | .draw ops _, l => wrO ops l
 | .seq a b, l => wrC b (wrC a l)
 | .jn a b, l => wrC b (wrC a l)
 | .cond _ a b, l => wrC b (wrC a l)
 | .blk _ b, l => wrC b l
 | .loop b, l => wrC b l
 | .exit _, l => l
 | .ret, l => l
def memB : Nat -> List Nat -> Bool
 | _, [] => false
 | k, j :: l => bif Nat.beq k j then true else memB k l
def ZHD : List Nat -> Regs -> Regs
 | _, [] => []
 | w, (t, x) :: r => bif memB t w then ZHD w r else (t, x) :: ZHD (t :: w) r
def ZGx : List Nat -> Heap -> Heap
 | _, [] => []
 | w, (k, some e) :: h => bif memB k w then ZGx w h else (k, some e) :: ZGx (k :: w) h
 | w, (k, none) :: h => ZGx (k :: w) h
def ZIh : Regs -> List Nat -> List Nat
 | [], l => l
 | (t, _) :: r, l => ZIh r (t :: l)
def ZIi : Heap -> List Nat -> List Nat
 | [], l => l
 | (k, _) :: h, l => ZIi h (k :: l)
def ZIj : Regs -> (Regs -> Prop) -> Prop
 | [], K => K []
 | (t, x) :: r, K => natK t fun t => svK x fun x => ZIj r fun r => K ((t, x) :: r)
theorem ZLu (r : Regs) (K : Regs -> Prop) : ZIj r K = K r := by
 induction r generalizing K with
 | nil => rfl
 | cons e u ih => obtain ⟨k, e⟩ := e; simp [ZIj, ZBU, ZE6, ih]
def ZOf : IC -> Bool
 | .loop _ => true
 | _ => false
section
variable {G : Ctx}
theorem ZAf {α : Type} {b : IC} {r : Regs} {h : Heap} {n : Nat} {K : X -> Regs -> Heap -> Nat -> Prop} {ds : List Nat} (N : Nat) (R : α -> Regs) (ks : List Nat) (H : α -> Heap) (I : α -> Prop) (μ : α -> Nat) (x0 : α) (hI : I x0)
  (h0 : ZG8 (wrC b ds) fun w => ZIj (R x0 ++ ZHD (ZIh (R x0) w) r) fun r1 => ZFQ (H x0 ++ ZGx (ZIi (H x0) ks) h) fun h1 => Imp G r h n r1 h1 N)
  (hr : ∀ x, I x -> ZG8 (wrC b ds) fun w => ZIj (R x ++ ZHD (ZIh (R x) w) r) fun r1 => ZFQ (H x ++ ZGx (ZIi (H x) ks) h) fun h1 => evC (CallP G) (InvP G) (EscP G) (LoopP G) (DrawP G) b r1 h1 N fun e r' h' n' => match e with
   | .nrm => ∃ y, I y /\ μ y < μ x /\ ZIj (R y ++ ZHD (ZIh (R y) w) r) fun r1 => ZFQ (H y ++ ZGx (ZIi (H y) ks) h) fun h1 => Imp G r' h' n' r1 h1 N
   | .ex id => K (.ex id) r' h' n'
   | .ret => K .ret r' h' n') (hb : ZOf b = false := by rfl) : LoopP G b r h n K := by
 simp only [ZE5, ZLu, ZCQ] at h0 hr
 exact ZK1 (fun x => R x ++ ZHD (ZIh (R x) (wrC b ds)) r) (fun x => H x ++ ZGx (ZIi (H x) ks) h) (fun _ => N) I μ x0 hI h0 hr (by cases b <;> first | rfl | cases hb)
end
theorem ZQj (l : Loc) (o j : Nat) (L : Loc) (h1 : L.blk = l.blk) (h2 : L.off = (adr l o).off) (h3 : L.spot = (adr l o).spot) : adr L j = (adr l o).add j := by
 unfold adr Addr.add at *
 simp only at h2 h3
 by_cases hj : j = 0
 ·subst hj; simp [h1, h2, h3]
 ·simp [h1, h2, hj]
theorem GM.put_ro {G : Ctx} {h : Heap} {n : Nat} {ρ : Env} {φ : Nat -> List Nat} {w : World} (g : GM G h (lt n) ρ φ w) (e0 : Ent) (l : Loc) (F : List Nat) (ho0 : e0.own = false)
  (he : ZBV e0 (fun k => if k = n then l else ρ k) (lt (n + 1)) l F w) (hF : ∀ b ∈ F, b < w.heap.size) (hdj : ∀ k e, hget h k = some e -> e.own = true -> ∀ b ∈ φ k, b ∉ F)
  (hfx : ∀ b ∈ F, G.R0 b \/ G.F0 b \/ G.w0.heap.size <= b) :
  GM G ((n, some e0) :: h) (lt (n + 1)) (fun k => if k = n then l else ρ k) (fun k => if k = n then F else φ k) w := by
 have hne : ∀ k, lt n k -> k ≠ n := fun k hk => Nat.ne_of_lt hk
 have hρ : ∀ k, lt n k -> (fun k => if k = n then l else ρ k) k = ρ k := fun k hk => by simp [hne k hk]
 have old : ∀ k e, hget ((n, some e0) :: h) k = some e -> (k = n /\ e = e0) \/ (k ≠ n /\ hget h k = some e) := fun k e hk => by
  rw [ZAJ] at hk
  split at hk
  ·rename_i hh; cases hk; exact .inl ⟨hh.symm, rfl⟩
  ·rename_i hh; exact .inr ⟨Ne.symm hh, hk⟩
 refine ⟨⟨fun k e hk => ?_, fun k e hk => ?_, fun k k' e e' hk hk' hkk ho b hb hb' => ?_, fun k e hk b hb => ?_⟩, fun k hk => ?_, fun k e hk ho b hb => ?_, g.frm, fun k e hk b hb => ?_, g.gb⟩
 ·rcases old k e hk with ⟨rfl, rfl⟩ | ⟨h1, h2⟩
  ·simpa using he
  ·simp only [h1, if_false]
   exact ZBV.mono hρ (fun k hk => Nat.lt_succ_of_lt hk) (fun _ _ => rfl) (g.hm.at_ k e h2)
 ·rcases old k e hk with ⟨rfl, rfl⟩ | ⟨h1, h2⟩
  ·exact Nat.lt_succ_self _
  ·exact Nat.lt_succ_of_lt (g.hm.lt k e h2)
 ·rcases old k e hk with ⟨rfl, rfl⟩ | ⟨h1, h2⟩
  ·rw [ho0] at ho; cases ho
  ·simp only [h1, if_false] at hb
   rcases old k' e' hk' with ⟨rfl, rfl⟩ | ⟨h3, h4⟩
   ·simp only [if_true] at hb'
    exact hdj k e h2 ho b hb hb'
   ·simp only [h3, if_false] at hb'
    exact g.hm.dj k k' e e' h2 h4 hkk ho b hb hb'
 ·rcases old k e hk with ⟨rfl, rfl⟩ | ⟨h1, h2⟩
  ·simp only [if_true] at hb; exact hF b hb
  ·simp only [h1, if_false] at hb; exact g.hm.sz k e h2 b hb
 ·have h1 := g.an k hk
  exact ⟨Nat.lt_succ_of_lt h1.1, (hρ k h1.1).trans h1.2⟩
 ·rcases old k e hk with ⟨rfl, rfl⟩ | ⟨h1, h2⟩
  ·rw [ho0] at ho; cases ho
  ·simp only [h1, if_false] at hb; exact g.ow k e h2 ho b hb
 ·rcases old k e hk with ⟨rfl, rfl⟩ | ⟨h1, h2⟩
  ·simp only [if_true] at hb; exact hfx b hb
  ·simp only [h1, if_false] at hb; exact g.fx k e h2 b hb
end Go.Sx
