/- The symbolic walk, part W: what can be found by itself: under which names what a contract, a loop's head or an end speaks of lies here. -/
import Derived.Test.YtlkfolopbehikaaGreatSxT
set_option linter.unusedSimpArgs false
set_option linter.unusedVariables false
set_option linter.unusedSectionVars false
namespace Go.Sx
open Go

/-! ### Names, matched: each step is carried out before the next one (else all would be reckoned again and again) -/
abbrev Bd := List (Option Nat)
def bdK : Bd → (Bd → Prop) → Prop
  | [], K => K []
  | none :: l, K => bdK l fun l => K (none :: l)
  | some k :: l, K => natK k fun k => bdK l fun l => K (some k :: l)
theorem bdK_eq (l : Bd) (K : Bd → Prop) : bdK l K = K l := by
  induction l generalizing K with
  | nil => rfl
  | cons x l ih => cases x <;> simp [bdK, ih, natK_eq]
def bset : Bd → Nat → Nat → Bd
  | [], _, _ => []
  | some i :: l, 0, _ => some i :: l
  | none :: l, 0, j => some j :: l
  | b :: l, k + 1, j => b :: bset l k j
def mNs : List Nat → List Nat → Bd → (Bd → Prop) → Prop
  | k :: ks, j :: js, l, K => bdK (bset l k j) fun l => mNs ks js l K
  | _, _, l, K => K l
def mLV (p x : LV) (l : Bd) (K : Bd → Prop) : Prop := match p, x with
  | .p k _ _ _, .p j _ _ _ => bdK (bset l k j) K
  | .s k _ _ _ _, .s j _ _ _ _ => bdK (bset l k j) K
  | .i _ k, .i _ j => bdK (bset l k j) K
  | .c _ ks, .c _ js => mNs ks js l K
  | .fp k _ _ _ _, .fp j _ _ _ _ => bdK (bset l k j) K
  | .mref k, .mref j => bdK (bset l k j) K
  | .stmp k, .stmp j => bdK (bset l k j) K
  | .fs k _ _ _ _ _, .fs j _ _ _ _ _ => bdK (bset l k j) K
  | _, _ => K l
def mLVs : List LV → List LV → Bd → (Bd → Prop) → Prop
  | p :: ps, x :: xs, l, K => mLV p x l fun l => mLVs ps xs l K
  | _, _, l, K => K l
def mAV (p x : AV) (l : Bd) (K : Bd → Prop) : Prop := match p, x with
  | .l p, .l x => mLV p x l K
  | .a ps, .a xs => mLVs ps xs l K
  | _, _ => K l
def mAVs : List AV → List AV → Bd → (Bd → Prop) → Prop
  | p :: ps, x :: xs, l, K => mAV p x l fun l => mAVs ps xs l K
  | _, _, l, K => K l
def mSV (p x : SV) (l : Bd) (K : Bd → Prop) : Prop := match p, x with
  | .o p, .o x => mAV p x l K
  | .t ps, .t xs => mAVs ps xs l K
  | _, _ => K l
def mRegs : Regs → Regs → Bd → (Bd → Prop) → Prop
  | [], _, l, K => K l
  | (_, .o (.l (.v _))) :: ps, r, l, K => mRegs ps r l K
  | (t, p) :: ps, r, l, K => match rget r t with
    | some x => mSV p x l fun l => mRegs ps r l K
    | none => mRegs ps r l K
def mHeap : Heap → Heap → Bd → (Bd → Prop) → Prop
  | [], _, l, K => K l
  | (k, some (.st ps)) :: hs, h, l, K => match nth l k with
      | some (some j) => match hget h j with
        | some (.st xs) => mLVs ps xs l fun l => mHeap hs h l K
        | _ => mHeap hs h l K
      | _ => mHeap hs h l K
  | (k, some (.ob ps _)) :: hs, h, l, K => match nth l k with
      | some (some j) => match hget h j with
        | some (.ob xs _) => mNs ps xs l fun l => mHeap hs h l K
        | _ => mHeap hs h l K
      | _ => mHeap hs h l K
  | _ :: hs, h, l, K => mHeap hs h l K
def mIter : Nat → Heap → Heap → Bd → (Bd → Prop) → Prop
  | 0, _, _, l, K => K l
  | m + 1, p, h, l, K => mHeap p h l fun l => mIter m p h l K
/-- The first np names are themselves, of the others nothing is known. -/
def bd0 : Nat → Nat → Nat → Bd
  | 0, _, _ => []
  | m + 1, 0, k => none :: bd0 m 0 (k + 1)
  | m + 1, np + 1, k => some k :: bd0 m np (k + 1)
def unB : Bd → List Nat
  | [] => []
  | some j :: l => j :: unB l
  | none :: l => 0 :: unB l
def outB (K : List Nat → Prop) (l : Bd) : Prop := natsK (unB l) K
def matchC (np : Nat) (args xs : List AV) (pre h : Heap) (K : List Nat → Prop) : Prop := bdK (bd0 np 0 0) fun l => mAVs args xs l fun l => mIter 3 pre h l (outB K)
def matchI (np m : Nat) (R r : Regs) (H h : Heap) (K : List Nat → Prop) : Prop := bdK (bd0 m np 0) fun l => mRegs R r l fun l => mIter 3 H h l (outB K)
def matchF (np m : Nat) (X x : SV) (H h : Heap) (K : List Nat → Prop) : Prop := bdK (bd0 m np 0) fun l => mSV X x l fun l => mIter 3 H h l (outB K)
theorem mNs_ex : ∀ (ks js : List Nat) (l : Bd) (K : Bd → Prop), mNs ks js l K → ∃ l, K l
  | k :: ks, j :: js, l, K, h => by simp only [mNs, bdK_eq] at h; exact mNs_ex ks js _ K h
  | [], _, l, K, h => ⟨l, by simpa [mNs] using h⟩
  | _ :: _, [], l, K, h => ⟨l, by simpa [mNs] using h⟩
theorem mLV_ex (p x : LV) (l : Bd) (K : Bd → Prop) (h : mLV p x l K) : ∃ l, K l := by
  unfold mLV at h
  split at h <;> first | (rw [bdK_eq] at h; exact ⟨_, h⟩) | exact mNs_ex _ _ _ _ h | exact ⟨_, h⟩
theorem mLVs_ex : ∀ (ps xs : List LV) (l : Bd) (K : Bd → Prop), mLVs ps xs l K → ∃ l, K l
  | p :: ps, x :: xs, l, K, h => by simp only [mLVs] at h; obtain ⟨l, h⟩ := mLV_ex _ _ _ _ h; exact mLVs_ex ps xs _ K h
  | [], _, l, K, h => ⟨l, by simpa [mLVs] using h⟩
  | _ :: _, [], l, K, h => ⟨l, by simpa [mLVs] using h⟩
theorem mAV_ex (p x : AV) (l : Bd) (K : Bd → Prop) (h : mAV p x l K) : ∃ l, K l := by
  unfold mAV at h
  split at h
  · exact mLV_ex _ _ _ _ h
  · exact mLVs_ex _ _ _ _ h
  · exact ⟨_, h⟩
theorem mAVs_ex : ∀ (ps xs : List AV) (l : Bd) (K : Bd → Prop), mAVs ps xs l K → ∃ l, K l
  | p :: ps, x :: xs, l, K, h => by simp only [mAVs] at h; obtain ⟨l, h⟩ := mAV_ex _ _ _ _ h; exact mAVs_ex ps xs _ K h
  | [], _, l, K, h => ⟨l, by simpa [mAVs] using h⟩
  | _ :: _, [], l, K, h => ⟨l, by simpa [mAVs] using h⟩
theorem mSV_ex (p x : SV) (l : Bd) (K : Bd → Prop) (h : mSV p x l K) : ∃ l, K l := by
  unfold mSV at h
  split at h
  · exact mAV_ex _ _ _ _ h
  · exact mAVs_ex _ _ _ _ h
  · exact ⟨_, h⟩
theorem mRegs_ex : ∀ (ps r : Regs) (l : Bd) (K : Bd → Prop), mRegs ps r l K → ∃ l, K l
  | [], r, l, K, h => ⟨l, h⟩
  | (t, p) :: ps, r, l, K, h => by
    unfold mRegs at h
    split at h
    · exact ⟨_, h⟩
    · rename_i heq; cases heq; exact mRegs_ex _ _ _ _ h
    · rename_i heq; cases heq
      split at h
      · obtain ⟨l, h⟩ := mSV_ex _ _ _ _ h; exact mRegs_ex _ _ _ _ h
      · exact mRegs_ex _ _ _ _ h
theorem mHeap_ex : ∀ (hs h : Heap) (l : Bd) (K : Bd → Prop), mHeap hs h l K → ∃ l, K l
  | [], h, l, K, hk => ⟨l, hk⟩
  | e :: hs, h, l, K, hk => by
    unfold mHeap at hk
    split at hk
    · exact ⟨_, hk⟩
    · rename_i heq; cases heq
      split at hk
      · split at hk
        · obtain ⟨l, hk⟩ := mLVs_ex _ _ _ _ hk; exact mHeap_ex _ _ _ _ hk
        · exact mHeap_ex _ _ _ _ hk
      · exact mHeap_ex _ _ _ _ hk
    · rename_i heq; cases heq
      split at hk
      · split at hk
        · obtain ⟨l, hk⟩ := mNs_ex _ _ _ _ hk; exact mHeap_ex _ _ _ _ hk
        · exact mHeap_ex _ _ _ _ hk
      · exact mHeap_ex _ _ _ _ hk
    · rename_i heq; cases heq; exact mHeap_ex _ _ _ _ hk
theorem mIter_ex : ∀ (m : Nat) (p h : Heap) (l : Bd) (K : Bd → Prop), mIter m p h l K → ∃ l, K l
  | 0, p, h, l, K, hk => ⟨l, hk⟩
  | m + 1, p, h, l, K, hk => by simp only [mIter] at hk; obtain ⟨l, hk⟩ := mHeap_ex _ _ _ _ hk; exact mIter_ex m p h _ K hk
theorem outB_ex {K : List Nat → Prop} {l : Bd} (h : outB K l) : ∃ l, K l := by simp only [outB, natsK_eq] at h; exact ⟨_, h⟩
theorem matchC_ex {np : Nat} {args xs : List AV} {pre h : Heap} {K : List Nat → Prop} (hk : matchC np args xs pre h K) : ∃ l, K l := by
  simp only [matchC, bdK_eq] at hk
  obtain ⟨l, hk⟩ := mAVs_ex _ _ _ _ hk
  obtain ⟨l, hk⟩ := mIter_ex _ _ _ _ _ hk
  exact outB_ex hk
theorem matchI_ex {np m : Nat} {R r : Regs} {H h : Heap} {K : List Nat → Prop} (hk : matchI np m R r H h K) : ∃ l, K l := by
  simp only [matchI, bdK_eq] at hk
  obtain ⟨l, hk⟩ := mRegs_ex _ _ _ _ hk
  obtain ⟨l, hk⟩ := mIter_ex _ _ _ _ _ hk
  exact outB_ex hk
theorem matchF_ex {np m : Nat} {X x : SV} {H h : Heap} {K : List Nat → Prop} (hk : matchF np m X x H h K) : ∃ l, K l := by
  simp only [matchF, bdK_eq] at hk
  obtain ⟨l, hk⟩ := mSV_ex _ _ _ _ hk
  obtain ⟨l, hk⟩ := mIter_ex _ _ _ _ _ hk
  exact outB_ex hk

section
variable {P : Program} {G : Ctx} {f : FuncId} {pre : Heap} {np : Nat} {args : List AV} {X : SV} {M : Nat} {H : Heap} {xs : List AV} {h : Heap} {n : Nat} {K : SV → Heap → Nat → Prop}
/-- A call by its contract, the names found. -/
theorem call_auto (hP : G.P = P) (hsp : FSpec P f pre np args fun x h m => x = X ∧ m = M ∧ h = H)
    (hk : matchC np args xs pre h fun l => (l.length = np ∧ l.all (fun j => decide (j < n)) = true ∧ xs = args.map (AV.ren (ren1 l n)) ∧ HasAll (ren1 l n) h pre ∧ apartB (ren1 l n) pre = true ∧ postB (ren2 l n) M H = true) ∧
      K (X.ren (ren2 l n)) (renH (ren2 l n) H ++ tomb (ren1 l n) pre) (n + (M - np))) : CallP G f xs h n K := by
  subst hP
  obtain ⟨l, ⟨h1, h2, h3, h4, h5, h6⟩, h7⟩ := matchC_ex hk
  exact call_det hsp l h1 h2 h3 h4 h5 h6 h7
theorem callD_auto (hP : G.P = P) (hsp : FSpec P f pre np args fun x h m => x = X ∧ m = M ∧ h = H)
    (hk : matchC np args xs pre h fun l => (l.length = np ∧ l.all (fun j => decide (j < n)) = true ∧ xs = args.map (AV.ren (ren1 l n)) ∧ HasAll (ren1 l n) h pre ∧ apartB (ren1 l n) pre = true ∧ postB (ren2 l n) M H = true) ∧
      K (X.ren (ren2 l n)) (renH (ren2 l n) H ++ tomb (ren1 l n) pre) (n + (M - np))) : CallD G f xs h n K := by
  subst hP
  obtain ⟨l, ⟨h1, h2, h3, h4, h5, h6⟩, h7⟩ := matchC_ex hk
  exact callD_spec hsp l h1 h2 h3 h4 h5 h6 h7
end
/-- The end, the names found. -/
theorem fin_auto {np : Nat} {x : SV} {h : Heap} {n : Nat} {X : SV} {M : Nat} {H : Heap} (hk : matchF np M X x H h fun l => l.length = M ∧ prefB l np = true ∧ l.all (fun j => decide (j < n)) = true ∧ x = X.ren (ren1 l n) ∧ HasAll (ren1 l n) h H ∧ apartB (ren1 l n) H = true) :
    FinP np x h n fun x h m => x = X ∧ m = M ∧ h = H := by
  obtain ⟨l, h0, h1, h2, h3, h4, h5⟩ := matchF_ex hk
  exact finP_intro l X H M h0 ⟨rfl, rfl, rfl⟩ h1 h2 h3 h4 h5
theorem imp_auto {G : Ctx} {np : Nat} (hA : G.A = np) {r : Regs} {h : Heap} {n : Nat} {r' : Regs} {h' : Heap} {n' : Nat}
    (hk : matchI np n' r' r h' h fun l => l.length = n' ∧ prefB l np = true ∧ l.all (fun j => decide (j < n)) = true ∧ HasRegs (ren1 l n) r r' ∧ HasAll (ren1 l n) h h' ∧ apartB (ren1 l n) h' = true) : Imp G r h n r' h' n' := by
  obtain ⟨l, h0, h1, h2, h3, h4, h5⟩ := matchI_ex hk
  exact imp_intro hA l h0 h1 h2 h3 h4 h5

/-! ### What a piece of code writes; what stays -/
def wrO : List IOp → List Nat → List Nat
  | [], l => l
  | o :: os, l => match o.dst with | some d => wrO os (d :: l) | none => wrO os l
def wrC : IC → List Nat → List Nat
  | .skip, l => l
  | .reg ops, l => wrO ops l
  | .draw ops _, l => wrO ops l
  | .seq a b, l => wrC b (wrC a l)
  | .jn a b, l => wrC b (wrC a l)
  | .cond _ a b, l => wrC b (wrC a l)
  | .blk _ b, l => wrC b l
  | .loop b, l => wrC b l
  | .exit _, l => l
  | .ret, l => l
def memB : Nat → List Nat → Bool
  | _, [] => false
  | k, j :: l => bif Nat.beq k j then true else memB k l
/-- The slots that are not in w, each once. -/
def keepR : List Nat → Regs → Regs
  | _, [] => []
  | w, (t, x) :: r => bif memB t w then keepR w r else (t, x) :: keepR (t :: w) r
/-- The entries that are not in w, each once. -/
def keepH : List Nat → Heap → Heap
  | _, [] => []
  | w, (k, some e) :: h => bif memB k w then keepH w h else (k, some e) :: keepH (k :: w) h
  | w, (k, none) :: h => keepH (k :: w) h
def keysR : Regs → List Nat → List Nat
  | [], l => l
  | (t, _) :: r, l => keysR r (t :: l)
def keysH : Heap → List Nat → List Nat
  | [], l => l
  | (k, _) :: h, l => keysH h (k :: l)
def regsK : Regs → (Regs → Prop) → Prop
  | [], K => K []
  | (t, x) :: r, K => natK t fun t => svK x fun x => regsK r fun r => K ((t, x) :: r)
theorem regsK_eq (r : Regs) (K : Regs → Prop) : regsK r K = K r := by
  induction r generalizing K with
  | nil => rfl
  | cons e u ih => obtain ⟨k, e⟩ := e; simp [regsK, natK_eq, svK_eq, ih]

def isLoopB : IC → Bool
  | .loop _ => true
  | _ => false
section
variable {G : Ctx}
/-- A LOOP, told by what changes: the slots that a round writes and that are read later (R), the chunks that it changes (H, named ks besides); all else stays. -/
theorem loop_auto {α : Type} {b : IC} {r : Regs} {h : Heap} {n : Nat} {K : X → Regs → Heap → Nat → Prop} {ds : List Nat} (N : Nat) (R : α → Regs) (ks : List Nat) (H : α → Heap) (I : α → Prop) (μ : α → Nat) (x0 : α) (hI : I x0)
    (h0 : natsK (wrC b ds) fun w => regsK (R x0 ++ keepR (keysR (R x0) w) r) fun r1 => heapK (H x0 ++ keepH (keysH (H x0) ks) h) fun h1 => Imp G r h n r1 h1 N)
    (hr : ∀ x, I x → natsK (wrC b ds) fun w => regsK (R x ++ keepR (keysR (R x) w) r) fun r1 => heapK (H x ++ keepH (keysH (H x) ks) h) fun h1 => evC (CallP G) (InvP G) (EscP G) (LoopP G) (DrawP G) b r1 h1 N fun e r' h' n' => match e with
      | .nrm => ∃ y, I y ∧ μ y < μ x ∧ regsK (R y ++ keepR (keysR (R y) w) r) fun r1 => heapK (H y ++ keepH (keysH (H y) ks) h) fun h1 => Imp G r' h' n' r1 h1 N
      | .ex id => K (.ex id) r' h' n'
      | .ret => K .ret r' h' n') (hb : isLoopB b = false := by rfl) : LoopP G b r h n K := by
  simp only [natsK_eq, regsK_eq, heapK_eq] at h0 hr
  exact loopP_intro (fun x => R x ++ keepR (keysR (R x) (wrC b ds)) r) (fun x => H x ++ keepH (keysH (H x) ks) h) (fun _ => N) I μ x0 hI h0 hr (by cases b <;> first | rfl | cases hb)
end

end Go.Sx
