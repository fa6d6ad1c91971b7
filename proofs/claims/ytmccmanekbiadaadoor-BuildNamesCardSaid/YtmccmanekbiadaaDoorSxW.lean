/- The symbolic walk, part W: what can be found by itself: under which names what a contract, a loop's head or an end speaks of lies here. -/
import Derived.Test.YtmccmanekbiadaaDoorSxT
set_option linter.unusedSimpArgs false
set_option linter.unusedVariables false
set_option linter.unusedSectionVars false
namespace Go.Sx
open Go

/-! ### Names, matched: each step is carried out before the next one (else all would be reckoned again and again) -/
abbrev Bd := List (Option Nat)
def bdK : Bd → (Bd → Prop) → Prop
  | [], K => K []
  | none :: l, K => bdK l fun l => K (none :: l)
  | some k :: l, K => natK k fun k => bdK l fun l => K (some k :: l)
theorem bdK_eq (l : Bd) (K : Bd → Prop) : bdK l K = K l := by
  induction l generalizing K with
  | nil => rfl
  | cons x l ih => cases x <;> simp [bdK, ih, natK_eq]
def bset : Bd → Nat → Nat → Bd
  | [], _, _ => []
  | some i :: l, 0, _ => some i :: l
  | none :: l, 0, j => some j :: l
  | b :: l, k + 1, j => b :: bset l k j
def mNs : List Nat → List Nat → Bd → (Bd → Prop) → Prop
  | k :: ks, j :: js, l, K => bdK (bset l k j) fun l => mNs ks js l K
  | _, _, l, K => K l
def mLV (p x : LV) (l : Bd) (K : Bd → Prop) : Prop := match p, x with
  | .p k _ _ _, .p j _ _ _ => bdK (bset l k j) K
  | .s k _ _ _ _, .s j _ _ _ _ => bdK (bset l k j) K
  | .i _ k, .i _ j => bdK (bset l k j) K
  | .c _ ks, .c _ js => mNs ks js l K
  | .fp k _ _ _ _, .fp j _ _ _ _ => bdK (bset l k j) K
  | .mref k, .mref j => bdK (bset l k j) K
  | .stmp k, .stmp j => bdK (bset l k j) K
  | .fs k _ _ _ _ _, .fs j _ _ _ _ _ => bdK (bset l k j) K
  | _, _ => K l
def mLVs : List LV → List LV → Bd → (Bd → Prop) → Prop
  | p :: ps, x :: xs, l, K => mLV p x l fun l => mLVs ps xs l K
  | _, _, l, K => K l
def mAV (p x : AV) (l : Bd) (K : Bd → Prop) : Prop := match p, x with
  | .l p, .l x => mLV p x l K
  | .a ps, .a xs => mLVs ps xs l K
  | _, _ => K l
def mAVs : List AV → List AV → Bd → (Bd → Prop) → Prop
  | p :: ps, x :: xs, l, K => mAV p x l fun l => mAVs ps xs l K
  | _, _, l, K => K l
def mSV (p x : SV) (l : Bd) (K : Bd → Prop) : Prop := match p, x with
  | .o p, .o x => mAV p x l K
  | .t ps, .t xs => mAVs ps xs l K
  | _, _ => K l
def mRegs : Regs → Regs → Bd → (Bd → Prop) → Prop
  | [], _, l, K => K l
  | (_, .o (.l (.v _))) :: ps, r, l, K => mRegs ps r l K
  | (t, p) :: ps, r, l, K => match rget r t with
    | some x => mSV p x l fun l => mRegs ps r l K
    | none => mRegs ps r l K
def mHeap : Heap → Heap → Bd → (Bd → Prop) → Prop
  | [], _, l, K => K l
  | (k, some (.st ps)) :: hs, h, l, K => match nth l k with
      | some (some j) => match hget h j with
        | some (.st xs) => mLVs ps xs l fun l => mHeap hs h l K
        | _ => mHeap hs h l K
      | _ => mHeap hs h l K
  | (k, some (.ob ps _)) :: hs, h, l, K => match nth l k with
      | some (some j) => match hget h j with
        | some (.ob xs _) => mNs ps xs l fun l => mHeap hs h l K
        | _ => mHeap hs h l K
      | _ => mHeap hs h l K
  | _ :: hs, h, l, K => mHeap hs h l K
def mIter : Nat → Heap → Heap → Bd → (Bd → Prop) → Prop
  | 0, _, _, l, K => K l
  | m + 1, p, h, l, K => mHeap p h l fun l => mIter m p h l K
/-- The first np names are themselves, of the others nothing is known. -/
def bd0 : Nat → Nat → Nat → Bd
  | 0, _, _ => []
  | m + 1, 0, k => none :: bd0 m 0 (k + 1)
  | m + 1, np + 1, k => some k :: bd0 m np (k + 1)
def unB : Bd → List Nat
  | [] => []
  | some j :: l => j :: unB l
  | none :: l => 0 :: unB l
def outB (K : List Nat → Prop) (l : Bd) : Prop := natsK (unB l) K
def matchC (np : Nat) (args xs : List AV) (pre h : Heap) (K : List Nat → Prop) : Prop := bdK (bd0 np 0 0) fun l => mAVs args xs l fun l => mIter 3 pre h l (outB K)
def matchI (np m : Nat) (R r : Regs) (H h : Heap) (K : List Nat → Prop) : Prop := bdK (bd0 m np 0) fun l => mRegs R r l fun l => mIter 3 H h l (outB K)
def matchF (np m : Nat) (X x : SV) (H h : Heap) (K : List Nat → Prop) : Prop := bdK (bd0 m np 0) fun l => mSV X x l fun l => mIter 3 H h l (outB K)
theorem mNs_ex : ∀ (ks js : List Nat) (l : Bd) (K : Bd → Prop), mNs ks js l K → ∃ l, K l
  | k :: ks, j :: js, l, K, h => by simp only [mNs, bdK_eq] at h; exact mNs_ex ks js _ K h
  | [], _, l, K, h => ⟨l, by simpa [mNs] using h⟩
  | _ :: _, [], l, K, h => ⟨l, by simpa [mNs] using h⟩
theorem mLV_ex (p x : LV) (l : Bd) (K : Bd → Prop) (h : mLV p x l K) : ∃ l, K l := by
  unfold mLV at h
  split at h <;> first | (rw [bdK_eq] at h; exact ⟨_, h⟩) | exact mNs_ex _ _ _ _ h | exact ⟨_, h⟩
theorem mLVs_ex : ∀ (ps xs : List LV) (l : Bd) (K : Bd → Prop), mLVs ps xs l K → ∃ l, K l
  | p :: ps, x :: xs, l, K, h => by simp only [mLVs] at h; obtain ⟨l, h⟩ := mLV_ex _ _ _ _ h; exact mLVs_ex ps xs _ K h
  | [], _, l, K, h => ⟨l, by simpa [mLVs] using h⟩
  | _ :: _, [], l, K, h => ⟨l, by simpa [mLVs] using h⟩
theorem mAV_ex (p x : AV) (l : Bd) (K : Bd → Prop) (h : mAV p x l K) : ∃ l, K l := by
  unfold mAV at h
  split at h
  · exact mLV_ex _ _ _ _ h
  · exact mLVs_ex _ _ _ _ h
  · exact ⟨_, h⟩
theorem mAVs_ex : ∀ (ps xs : List AV) (l : Bd) (K : Bd → Prop), mAVs ps xs l K → ∃ l, K l
  | p :: ps, x :: xs, l, K, h => by simp only [mAVs] at h; obtain ⟨l, h⟩ := mAV_ex _ _ _ _ h; exact mAVs_ex ps xs _ K h
  | [], _, l, K, h => ⟨l, by simpa [mAVs] using h⟩
  | _ :: _, [], l, K, h => ⟨l, by simpa [mAVs] using h⟩
theorem mSV_ex (p x : SV) (l : Bd) (K : Bd → Prop) (h : mSV p x l K) : ∃ l, K l := by
  unfold mSV at h
  split at h
  · exact mAV_ex _ _ _ _ h
  · exact mAVs_ex _ _ _ _ h
  · exact ⟨_, h⟩
theorem mRegs_ex : ∀ (ps r : Regs) (l : Bd) (K : Bd → Prop), mRegs ps r l K → ∃ l, K l
  | [], r, l, K, h => ⟨l, h⟩
  | (t, p) :: ps, r, l, K, h => by
    unfold mRegs at h
    split at h
    · exact ⟨_, h⟩
    · rename_i heq; cases heq; exact mRegs_ex _ _ _ _ h
    · rename_i heq; cases heq
      split at h
      · obtain ⟨l, h⟩ := mSV_ex _ _ _ _ h; exact mRegs_ex _ _ _ _ h
      · exact mRegs_ex _ _ _ _ h
theorem mHeap_ex : ∀ (hs h : Heap) (l : Bd) (K : Bd → Prop), mHeap hs h l K → ∃ l, K l
  | [], h, l, K, hk => ⟨l, hk⟩
  | e :: hs, h, l, K, hk => by
    unfold mHeap at hk
    split at hk
    · exact ⟨_, hk⟩
    · rename_i heq; cases heq
      split at hk
      · split at hk
        · obtain ⟨l, hk⟩ := mLVs_ex _ _ _ _ hk; exact mHeap_ex _ _ _ _ hk
        · exact mHeap_ex _ _ _ _ hk
      · exact mHeap_ex _ _ _ _ hk
    · rename_i heq; cases heq
      split at hk
      · split at hk
        · obtain ⟨l, hk⟩ := mNs_ex _ _ _ _ hk; exact mHeap_ex _ _ _ _ hk
        · exact mHeap_ex _ _ _ _ hk
      · exact mHeap_ex _ _ _ _ hk
    · rename_i heq; cases heq; exact mHeap_ex _ _ _ _ hk
theorem mIter_ex : ∀ (m : Nat) (p h : Heap) (l : Bd) (K : Bd → Prop), mIter m p h l K → ∃ l, K l
  | 0, p, h, l, K, hk => ⟨l, hk⟩
  | m + 1, p, h, l, K, hk => by simp only [mIter] at hk; obtain ⟨l, hk⟩ := mHeap_ex _ _ _ _ hk; exact mIter_ex m p h _ K hk
theorem outB_ex {K : List Nat → Prop} {l : Bd} (h : outB K l) : ∃ l, K l := by simp only [outB, natsK_eq] at h; exact ⟨_, h⟩
theorem matchC_ex {np : Nat} {args xs : List AV} {pre h : Heap} {K : List Nat → Prop} (hk : matchC np args xs pre h K) : ∃ l, K l := by
  simp only [matchC, bdK_eq] at hk
  obtain ⟨l, hk⟩ := mAVs_ex _ _ _ _ hk
  obtain ⟨l, hk⟩ := mIter_ex _ _ _ _ _ hk
  exact outB_ex hk
theorem matchI_ex {np m : Nat} {R r : Regs} {H h : Heap} {K : List Nat → Prop} (hk : matchI np m R r H h K) : ∃ l, K l := by
  simp only [matchI, bdK_eq] at hk
  obtain ⟨l, hk⟩ := mRegs_ex _ _ _ _ hk
  obtain ⟨l, hk⟩ := mIter_ex _ _ _ _ _ hk
  exact outB_ex hk
theorem matchF_ex {np m : Nat} {X x : SV} {H h : Heap} {K : List Nat → Prop} (hk : matchF np m X x H h K) : ∃ l, K l := by
  simp only [matchF, bdK_eq] at hk
  obtain ⟨l, hk⟩ := mSV_ex _ _ _ _ hk
  obtain ⟨l, hk⟩ := mIter_ex _ _ _ _ _ hk
  exact outB_ex hk

section
variable {P : Program} {G : Ctx} {f : FuncId} {pre : Heap} {np : Nat} {args : List AV} {X : SV} {M : Nat} {H : Heap} {xs : List AV} {h : Heap} {n : Nat} {K : SV → Heap → Nat → Prop}
/-- A call by its contract, the names found. -/
theorem call_auto (hP : G.P = P) (hsp : FSpec P f pre np args fun x h m => x = X ∧ m = M ∧ h = H)
    (hk : matchC np args xs pre h fun l => (l.length = np ∧ l.all (fun j => decide (j < n)) = true ∧ xs = args.map (AV.ren (ren1 l n)) ∧ HasAll (ren1 l n) h pre ∧ apartB (ren1 l n) pre = true ∧ postB (ren2 l n) M H = true) ∧
      K (X.ren (ren2 l n)) (renH (ren2 l n) H ++ tomb (ren1 l n) pre) (n + (M - np))) : CallP G f xs h n K := by
  subst hP
  obtain ⟨l, ⟨h1, h2, h3, h4, h5, h6⟩, h7⟩ := matchC_ex hk
  exact call_det hsp l h1 h2 h3 h4 h5 h6 h7
theorem callD_auto (hP : G.P = P) (hsp : FSpec P f pre np args fun x h m => x = X ∧ m = M ∧ h = H)
    (hk : matchC np args xs pre h fun l => (l.length = np ∧ l.all (fun j => decide (j < n)) = true ∧ xs = args.map (AV.ren (ren1 l n)) ∧ HasAll (ren1 l n) h pre ∧ apartB (ren1 l n) pre = true ∧ postB (ren2 l n) M H = true) ∧
      K (X.ren (ren2 l n)) (renH (ren2 l n) H ++ tomb (ren1 l n) pre) (n + (M - np))) : CallD G f xs h n K := by
  subst hP
  obtain ⟨l, ⟨h1, h2, h3, h4, h5, h6⟩, h7⟩ := matchC_ex hk
  exact callD_spec hsp l h1 h2 h3 h4 h5 h6 h7
end
/-- The end, the names found. -/
theorem fin_auto {np : Nat} {x : SV} {h : Heap} {n : Nat} {X : SV} {M : Nat} {H : Heap} (hk : matchF np M X x H h fun l => l.length = M ∧ prefB l np = true ∧ l.all (fun j => decide (j < n)) = true ∧ x = X.ren (ren1 l n) ∧ HasAll (ren1 l n) h H ∧ apartB (ren1 l n) H = true) :
    FinP np x h n fun x h m => x = X ∧ m = M ∧ h = H := by
  obtain ⟨l, h0, h1, h2, h3, h4, h5⟩ := matchF_ex hk
  exact finP_intro l X H M h0 ⟨rfl, rfl, rfl⟩ h1 h2 h3 h4 h5
theorem imp_auto {G : Ctx} {np : Nat} (hA : G.A = np) {r : Regs} {h : Heap} {n : Nat} {r' : Regs} {h' : Heap} {n' : Nat}
    (hk : matchI np n' r' r h' h fun l => l.length = n' ∧ prefB l np = true ∧ l.all (fun j => decide (j < n)) = true ∧ HasRegs (ren1 l n) r r' ∧ HasAll (ren1 l n) h h' ∧ apartB (ren1 l n) h' = true) : Imp G r h n r' h' n' := by
  obtain ⟨l, h0, h1, h2, h3, h4, h5⟩ := matchI_ex hk
  exact imp_intro hA l h0 h1 h2 h3 h4 h5

/-! ### What a piece of code writes; what stays -/
def wrO : List IOp → List Nat → List Nat
  | [], l => l
  | o :: os, l => match o.dst with | some d => wrO os (d :: l) | none => wrO os l
def wrC : IC → List Nat → List Nat
  | .skip, l => l
  | .reg ops, l => wrO ops l
  | .draw ops _, l => wrO ops l
  | .seq a b, l => wrC b (wrC a l)
  | .jn a b, l => wrC b (wrC a l)
  | .cond _ a b, l => wrC b (wrC a l)
  | .blk _ b, l => wrC b l
  | .loop b, l => wrC b l
  | .exit _, l => l
  | .ret, l => l
def memB : Nat → List Nat → Bool
  | _, [] => false
  | k, j :: l => bif Nat.beq k j then true else memB k l
/-- The slots that are not in w, each once. -/
def keepR : List Nat → Regs → Regs
  | _, [] => []
  | w, (t, x) :: r => bif memB t w then keepR w r else (t, x) :: keepR (t :: w) r
/-- The entries that are not in w, each once. -/
def keepH : List Nat → Heap → Heap
  | _, [] => []
  | w, (k, some e) :: h => bif memB k w then keepH w h else (k, some e) :: keepH (k :: w) h
  | w, (k, none) :: h => keepH (k :: w) h
def keysR : Regs → List Nat → List Nat
  | [], l => l
  | (t, _) :: r, l => keysR r (t :: l)
def keysH : Heap → List Nat → List Nat
  | [], l => l
  | (k, _) :: h, l => keysH h (k :: l)
def regsK : Regs → (Regs → Prop) → Prop
  | [], K => K []
  | (t, x) :: r, K => natK t fun t => svK x fun x => regsK r fun r => K ((t, x) :: r)
theorem regsK_eq (r : Regs) (K : Regs → Prop) : regsK r K = K r := by
  induction r generalizing K with
  | nil => rfl
  | cons e u ih => obtain ⟨k, e⟩ := e; simp [regsK, natK_eq, svK_eq, ih]

def isLoopB : IC → Bool
  | .loop _ => true
  | _ => false
section
variable {G : Ctx}
/-- A LOOP, told by what changes: the slots that a round writes and that are read later (R), the chunks that it changes (H, named ks besides); all else stays. -/
theorem loop_auto {α : Type} {b : IC} {r : Regs} {h : Heap} {n : Nat} {K : X → Regs → Heap → Nat → Prop} {ds : List Nat} (N : Nat) (R : α → Regs) (ks : List Nat) (H : α → Heap) (I : α → Prop) (μ : α → Nat) (x0 : α) (hI : I x0)
    (h0 : natsK (wrC b ds) fun w => regsK (R x0 ++ keepR (keysR (R x0) w) r) fun r1 => heapK (H x0 ++ keepH (keysH (H x0) ks) h) fun h1 => Imp G r h n r1 h1 N)
    (hr : ∀ x, I x → natsK (wrC b ds) fun w => regsK (R x ++ keepR (keysR (R x) w) r) fun r1 => heapK (H x ++ keepH (keysH (H x) ks) h) fun h1 => evC (CallP G) (InvP G) (EscP G) (LoopP G) (DrawP G) b r1 h1 N fun e r' h' n' => match e with
      | .nrm => ∃ y, I y ∧ μ y < μ x ∧ regsK (R y ++ keepR (keysR (R y) w) r) fun r1 => heapK (H y ++ keepH (keysH (H y) ks) h) fun h1 => Imp G r' h' n' r1 h1 N
      | .ex id => K (.ex id) r' h' n'
      | .ret => K .ret r' h' n') (hb : isLoopB b = false := by rfl) : LoopP G b r h n K := by
  simp only [natsK_eq, regsK_eq, heapK_eq] at h0 hr
  exact loopP_intro (fun x => R x ++ keepR (keysR (R x) (wrC b ds)) r) (fun x => H x ++ keepH (keysH (H x) ks) h) (fun _ => N) I μ x0 hI h0 hr (by cases b <;> first | rfl | cases hb)
/-- Where ways meet: told by what the ways change. -/
theorem join_auto {α : Type} {x y : IC} {r : Regs} {h : Heap} {n : Nat} {K : X → Regs → Heap → Nat → Prop} {ds : List Nat} (N : Nat) (R : α → Regs) (ks : List Nat) (H : α → Heap) (I : α → Prop)
    (h1 : natsK (wrC x ds) fun w => evC (CallP G) (InvP G) (EscP G) (LoopP G) (DrawP G) x r h n fun e r' h' n' => match e with
      | .nrm => ∃ z, I z ∧ regsK (R z ++ keepR (keysR (R z) w) r) fun r1 => heapK (H z ++ keepH (keysH (H z) ks) h) fun h1 => Imp G r' h' n' r1 h1 N
      | .ex id => K (.ex id) r' h' n'
      | .ret => K .ret r' h' n')
    (h2 : ∀ z, I z → natsK (wrC x ds) fun w => regsK (R z ++ keepR (keysR (R z) w) r) fun r1 => heapK (H z ++ keepH (keysH (H z) ks) h) fun h1 => evC (CallP G) (InvP G) (EscP G) (LoopP G) (DrawP G) y r1 h1 N K) : LoopP G (.loop (.jn x y)) r h n K := by
  simp only [natsK_eq, regsK_eq, heapK_eq] at h1 h2
  exact join_at (fun z => R z ++ keepR (keysR (R z) (wrC x ds)) r) (fun z => H z ++ keepH (keysH (H z) ks) h) (fun _ => N) I h1 h2
end

/-- **What a body comes to**, as the walk tells it. -/
theorem body_of_ev {P : Program} {f : FuncId} {fn : Func} {ic : IC} {rs : List RV} {pre : Heap} {np : Nat} {args : List AV} {Kf : SV → Heap → Nat → Prop} (hf : P.funcs[f]? = some fn) (hic : cF P fn = some ic) (hrs : cR P fn.results.toList = some rs)
    (hN : decide (args.length ≤ fn.ntmps) = true) {ρ : Env} {φ : Nat → List Nat} {w : World} (hm : HM pre (lt np) ρ φ w) (hok : ∀ x ∈ args, x.ok ρ (lt np)) (hgw : GlobW w) (hgf : GlobF (Own pre φ))
    (hev : ∀ G : Ctx, G.P = P → G.A = np → evF G ic rs args pre np Kf) : Calls P f (args.map (AV.at ρ)).toArray w fun e w' =>
      ∃ x h' n' ρ' φ', e = .returned (x.at ρ') ∧ Kf x h' n' ∧ np ≤ n' ∧ (∀ k, k < np → ρ' k = ρ k) ∧ HM h' (lt n') ρ' φ' w' ∧ x.ok ρ' (lt n') ∧ Frm w (Own pre φ) w' ∧
        (∀ k e, hget h' k = some e → e.own = true → ∀ b ∈ φ' k, Own pre φ b ∨ w.heap.size ≤ b) ∧
          ∀ k e, hget h' k = some e → ∀ b ∈ φ' k, (∃ k0 e0, hget pre k0 = some e0 ∧ b ∈ φ k0) ∨ w.heap.size ≤ b := by
  obtain ⟨c, hbody, hcc⟩ : ∃ c, fn.body = some c ∧ cC P fn.ntmps c = some ic := by
    unfold cF at hic
    split at hic
    · rename_i c hc; exact ⟨c, hc, hic⟩
    · cases hic
  have hN := of_decide_eq_true hN
  let G : Ctx := { P := P, w0 := w, F0 := Own pre φ, R0 := fun b => ∃ k e, hget pre k = some e ∧ b ∈ φ k, ρ0 := ρ, A := np, N := fn.ntmps }
  have hg : GM G pre (lt np) ρ φ w := ⟨hm, fun k hk => ⟨hk, rfl⟩, fun k e hk ho b hb => .inl ⟨k, e, hk, ho, hb⟩, ⟨Nat.le_refl _, fun _ _ _ => rfl, rfl, rfl, rfl⟩, fun k e hk b hb => .inl ⟨k, e, hk, hb⟩, hgw, hgf⟩
  have hsat : Sat G (argRegs 0 args) pre np { tmps := (args.map (AV.at ρ)).toArray ++ Array.replicate (fn.ntmps - (args.map (AV.at ρ)).toArray.size) undef, defers := [] } w := by
    refine ⟨ρ, φ, hg, fun t x hx => ?_, by simp [G]; omega, rfl⟩
    obtain ⟨j, y, h1, h2, rfl⟩ := argRegs_get args 0 t x hx
    obtain rfl : t = j := by omega
    have hj : t < args.length := (List.getElem?_eq_some_iff.1 h2).1
    refine ⟨?_, hok y (List.mem_of_getElem? h2)⟩
    rw [Array.getElem?_append_left (by simpa using hj)]
    simp [h2, SV.at]
  refine calls_of_wp hf hbody (wp_mono (evC_sound (G := G) c ic _ _ _ _ _ w hcc (hev G rfl rfl) hsat) fun e a w' hq => ?_)
  have fin : ∀ r h n, evR rs r h [] (fun x => Kf x h n) → Sat G r h n a w' → a.defers = [] ∧ ∃ v, (results fn a.tmps).run P w' = .ok v w' ∧
      ∃ x h' n' ρ' φ', Ending.returned v = .returned (x.at ρ') ∧ Kf x h' n' ∧ np ≤ n' ∧ (∀ k, k < np → ρ' k = ρ k) ∧ HM h' (lt n') ρ' φ' w' ∧ x.ok ρ' (lt n') ∧ Frm w (Own pre φ) w' ∧
        (∀ k e, hget h' k = some e → e.own = true → ∀ b ∈ φ' k, Own pre φ b ∨ w.heap.size ≤ b) ∧
          ∀ k e, hget h' k = some e → ∀ b ∈ φ' k, (∃ k0 e0, hget pre k0 = some e0 ∧ b ∈ φ k0) ∨ w.heap.size ≤ b := by
    intro r h n hev' ⟨ρ1, φ1, g1, hr1, hsz, hdf⟩
    refine ⟨hdf, ?_⟩
    obtain ⟨xs, hK, hxs, ys, hys, hrun⟩ := evR_sound (G := G) g1 hr1 fn.results.toList rs [] hrs hev' (by simp)
    simp only [List.nil_append] at hys
    subst hys
    have hpack : (results fn a.tmps).run P w' = .ok ((packR xs).at ρ1) w' := by
      have hrun' : (fn.results.mapM (resOne a.tmps)).run P w' = .ok (xs.map (AV.at ρ1)).toArray w' := by
        rw [Array.mapM_eq_mapM_toList]
        simp only [map_eq_pure_bind, Sem.run_bind]
        have hrun2 := hrun
        simp only [G] at hrun2
        rw [hrun2]
        simp
      rw [results_eq]
      simp only [Sem.run_bind]
      rw [hrun']
      simp only [Result.andThen_ok, Sem.run_pure]
      congr 1
      match xs with
      | [] => rfl
      | [x] => rfl
      | x :: y :: xs => simp [packR, SV.at]
    have hxok : (packR xs).ok ρ1 (lt n) := by
      match xs, hxs with
      | [], _ => intro y hy; cases hy
      | [x], hxs => exact hxs x (by simp)
      | x :: y :: zs, hxs => exact hxs
    refine ⟨_, hpack, packR xs, h, n, ρ1, φ1, rfl, hK, (by cases np with | zero => exact Nat.zero_le _ | succ m => exact (g1.an m (Nat.lt_succ_self m)).1), fun k hk => (g1.an k hk).2, g1.hm, hxok, g1.frm, fun k e hk ho b hb => g1.ow _ e hk ho b hb, fun k e hk b hb => ?_⟩
    rcases g1.fx k e hk b hb with h | ⟨k0, e0, h1, _, h3⟩ | h
    · exact .inl h
    · exact .inl ⟨k0, e0, h1, h3⟩
    · exact .inr h
  cases e with
  | normal => obtain ⟨r, h, n, hK, hs⟩ := hq; exact fin r h n hK hs
  | ret => obtain ⟨r, h, n, hK, hs⟩ := hq; exact fin r h n hK hs
  | exit id => obtain ⟨r, h, n, hK, hs⟩ := hq; exact hK.elim
  | goto l => exact hq.elim
  | panic c => exact hq.elim
  | outgrown => exact hq.elim

/-- What was laid ahead of h. -/
def newH (h' h : Heap) : Heap := h'.take (h'.length - h.length)
/-- **A body walked in the place of its call.** -/
theorem call_inline {P : Program} {G : Ctx} (hP : G.P = P) {f : FuncId} {fn : Func} {ic : IC} {rs : List RV} {args : List AV} {h : Heap} {n : Nat} {K : SV → Heap → Nat → Prop} (hf : P.funcs[f]? = some fn) (hic : cF P fn = some ic)
    (hrs : cR P fn.results.toList = some rs) (hb : hasBody P f = true) (hN : decide (args.length ≤ fn.ntmps) = true)
    (hev : ∀ G' : Ctx, G'.P = P → G'.A = n → evF G' ic rs args h n fun x h' n' => newH h' h ++ h = h' ∧ K x (newH h' h) n') : CallP G f args h n K := by
  subst hP
  rw [CallP_eq]
  refine ⟨hb, fun G' hG' ρ φ w g hok => ?_⟩
  refine (body_of_ev hf hic hrs hN g.hm hok g.glob g.ownGlob hev).mono fun e w' ⟨x, h', n', ρ', φ', he, ⟨hu, hK⟩, hn, hρ, hm', hx, hfr, how, hfx⟩ => ?_
  have own : ∀ b, Own h φ b → G'.F0 b ∨ G'.w0.heap.size ≤ b := fun b ⟨k, e, hk, ho, hb⟩ => g.ow k e hk ho b hb
  refine ⟨x, newH h' h, n', ρ', φ', he, hK, hn, hρ, ?_, hx⟩
  rw [hu]
  refine ⟨hm', fun k hk => ?_, fun k e hk ho b hb => ?_, ?_, fun k e hk b hb => (by rcases hfx k e hk b hb with ⟨k0, e0, h1, h2⟩ | h1; exact g.fx k0 e0 h1 b h2; exact .inr (.inr (Nat.le_trans g.frm.size h1))), g.gb⟩
  · have h1 := g.an k hk
    exact ⟨Nat.lt_of_lt_of_le h1.1 hn, by rw [hρ k h1.1]; exact h1.2⟩
  · rcases how k e hk ho b hb with h1 | h1
    · exact own b h1
    · exact .inr (Nat.le_trans g.frm.size h1)
  · refine ⟨Nat.le_trans g.frm.size hfr.size, fun b hb hnb => ?_, by rw [hfr.os, g.frm.os], by rw [hfr.tape, g.frm.tape], by rw [hfr.output, g.frm.output]⟩
    rw [hfr.blk b (Nat.lt_of_lt_of_le hb g.frm.size) fun ho => ?_]
    · exact g.frm.blk b hb hnb
    · rcases own b ho with h1 | h1
      · exact hnb h1
      · exact absurd hb (Nat.not_lt.2 h1)
/-- A nil slice that is handed over, told as a slice of nothing. -/
theorem call_nil {G : Ctx} {f : FuncId} {xs ys : List AV} {h : Heap} {n : Nat} {K : SV → Heap → Nat → Prop} (wd : Nat) (he : CallP G f (xs ++ .l (.s n wd 0 0 0) :: ys) ((n, some (.ar wd 0 fun _ => [])) :: h) (n + 1) fun x u n' => K x (u ++ [(n, some (.ar wd 0 fun _ => []))]) n') :
    CallP G f (xs ++ .l (.v (.slice none 0 0)) :: ys) h n K := by
  rw [CallP_eq] at he ⊢
  refine ⟨he.1, fun G' hG' ρ φ w g hok => ?_⟩
  have hρ : ∀ k, lt n k → (fun k => if k = n then nilL else ρ k) k = ρ k := fun k hk => by simp only [lt] at hk; simp [Nat.ne_of_lt hk]
  have key := he.2 G' hG' _ _ w (gm_nil g wd fun _ => []) (fun x hx => by
    rcases List.mem_append.1 hx with hx | hx
    · exact AV.ok_mono hρ (fun k hk => Nat.lt_succ_of_lt hk) (hok x (List.mem_append.2 (.inl hx)))
    · rcases List.mem_cons.1 hx with rfl | hx
      · exact ⟨Nat.lt_succ_self n, fun _ => rfl, fun h => by simp [nilL] at h⟩
      · exact AV.ok_mono hρ (fun k hk => Nat.lt_succ_of_lt hk) (hok x (List.mem_append.2 (.inr (List.mem_cons_of_mem _ hx)))))
  have e1 : (xs ++ AV.l (.s n wd 0 0 0) :: ys).map (AV.at fun k => if k = n then nilL else ρ k) = (xs ++ AV.l (.v (.slice none 0 0)) :: ys).map (AV.at ρ) := by
    simp only [List.map_append, List.map_cons]
    rw [List.map_congr_left fun x hx => AV.at_mono hρ (hok x (List.mem_append.2 (.inl hx))), List.map_congr_left fun x hx => AV.at_mono hρ (hok x (List.mem_append.2 (.inr (List.mem_cons_of_mem _ hx))))]
    rw [show (AV.l (.s n wd 0 0 0)).at (fun k => if k = n then nilL else ρ k) = .slice none 0 0 from by simp [AV.at, LV.at, nilL]]
    rfl
  rw [e1] at key
  refine key.mono fun e w' ⟨x, u, n', ρ', φ', h1, h2, h3, h4, h5, h6⟩ => ⟨x, _, n', ρ', φ', h1, h2, Nat.le_of_succ_le h3, fun k hk => ?_, by simpa using h5, h6⟩
  rw [h4 k (Nat.lt_succ_of_lt hk)]
  exact hρ k hk
theorem adr_off (l : Loc) (o j : Nat) (L : Loc) (h1 : L.blk = l.blk) (h2 : L.off = (adr l o).off) (h3 : L.spot = (adr l o).spot) : adr L j = (adr l o).add j := by
  unfold adr Addr.add at *
  simp only at h2 h3
  by_cases hj : j = 0
  · subst hj; simp [h1, h2, h3]
  · simp [h1, h2, hj]
/-- An entry that is no one's own is laid beside what is there. -/
theorem GM.put_ro {G : Ctx} {h : Heap} {n : Nat} {ρ : Env} {φ : Nat → List Nat} {w : World} (g : GM G h (lt n) ρ φ w) (e0 : Ent) (l : Loc) (F : List Nat) (ho0 : e0.own = false)
    (he : EntAt e0 (fun k => if k = n then l else ρ k) (lt (n + 1)) l F w) (hF : ∀ b ∈ F, b < w.heap.size) (hdj : ∀ k e, hget h k = some e → e.own = true → ∀ b ∈ φ k, b ∉ F)
    (hfx : ∀ b ∈ F, G.R0 b ∨ G.F0 b ∨ G.w0.heap.size ≤ b) :
    GM G ((n, some e0) :: h) (lt (n + 1)) (fun k => if k = n then l else ρ k) (fun k => if k = n then F else φ k) w := by
  have hne : ∀ k, lt n k → k ≠ n := fun k hk => Nat.ne_of_lt hk
  have hρ : ∀ k, lt n k → (fun k => if k = n then l else ρ k) k = ρ k := fun k hk => by simp [hne k hk]
  have old : ∀ k e, hget ((n, some e0) :: h) k = some e → (k = n ∧ e = e0) ∨ (k ≠ n ∧ hget h k = some e) := fun k e hk => by
    rw [hget_cons] at hk
    split at hk
    · rename_i hh; cases hk; exact .inl ⟨hh.symm, rfl⟩
    · rename_i hh; exact .inr ⟨Ne.symm hh, hk⟩
  refine ⟨⟨fun k e hk => ?_, fun k e hk => ?_, fun k k' e e' hk hk' hkk ho b hb hb' => ?_, fun k e hk b hb => ?_⟩, fun k hk => ?_, fun k e hk ho b hb => ?_, g.frm, fun k e hk b hb => ?_, g.gb⟩
  · rcases old k e hk with ⟨rfl, rfl⟩ | ⟨h1, h2⟩
    · simpa using he
    · simp only [h1, if_false]
      exact EntAt.mono hρ (fun k hk => Nat.lt_succ_of_lt hk) (fun _ _ => rfl) (g.hm.at_ k e h2)
  · rcases old k e hk with ⟨rfl, rfl⟩ | ⟨h1, h2⟩
    · exact Nat.lt_succ_self _
    · exact Nat.lt_succ_of_lt (g.hm.lt k e h2)
  · rcases old k e hk with ⟨rfl, rfl⟩ | ⟨h1, h2⟩
    · rw [ho0] at ho; cases ho
    · simp only [h1, if_false] at hb
      rcases old k' e' hk' with ⟨rfl, rfl⟩ | ⟨h3, h4⟩
      · simp only [if_true] at hb'
        exact hdj k e h2 ho b hb hb'
      · simp only [h3, if_false] at hb'
        exact g.hm.dj k k' e e' h2 h4 hkk ho b hb hb'
  · rcases old k e hk with ⟨rfl, rfl⟩ | ⟨h1, h2⟩
    · simp only [if_true] at hb; exact hF b hb
    · simp only [h1, if_false] at hb; exact g.hm.sz k e h2 b hb
  · have h1 := g.an k hk
    exact ⟨Nat.lt_succ_of_lt h1.1, (hρ k h1.1).trans h1.2⟩
  · rcases old k e hk with ⟨rfl, rfl⟩ | ⟨h1, h2⟩
    · rw [ho0] at ho; cases ho
    · simp only [h1, if_false] at hb; exact g.ow k e h2 ho b hb
  · rcases old k e hk with ⟨rfl, rfl⟩ | ⟨h1, h2⟩
    · simp only [if_true] at hb; exact hfx b hb
    · simp only [h1, if_false] at hb; exact g.fx k e h2 b hb
/-- A slice of a deep thing that is handed over, told as a row of values. -/
theorem call_flat {G : Ctx} {f : FuncId} {xs ys : List AV} {h : Heap} {n : Nat} {K : SV → Heap → Nat → Prop} {k : Nat} {q : List (Nat × Nat)} {wd row len d m : Nat} {d0 : DV} {g0 : Nat → Nat → DV} (g1 : Nat → List Value)
    (hk : hget h k = some (.dp false d0)) (hq : dvNode d0 q = .sl wd m g0) (hm : row + len ≤ m) (hg : ∀ i, i < len → (g1 i).length = wd ∧ ∀ c, c < wd → ∃ x, (g1 i)[c]? = some x ∧ g0 (row + i) c = .v x)
    (he : CallP G f (xs ++ .l (.s n wd 0 len 0) :: ys) ((n, some (.ro wd len g1)) :: h) (n + 1) fun x u n' => K x (u ++ [(n, some (.ro wd len g1))]) n') :
    CallP G f (xs ++ .l (.fs k q wd row len d) :: ys) h n K := by
  rw [CallP_eq] at he ⊢
  refine ⟨he.1, fun G' hG' ρ φ w g hok => ?_⟩
  have hokk : (LV.fs k q wd row len d).ok ρ (lt n) := hok (.l (.fs k q wd row len d)) (by simp)
  obtain ⟨⟨hD, hth⟩, hn1, hn2⟩ := hokk
  obtain ⟨_, wd0, n0, f0, Fr, Fc, hd0, hF, _, hN, _⟩ := g.hm.at_ k _ hk
  obtain ⟨hN1, hN2, hN3⟩ := hN q wd m g0 hth hq
  let s := (ρ k).sub q
  let L : Loc := { blk := s.blk, off := (adr s.loc ((row - dof s.loc.cap row d) * wd)).off, cap := s.cap - row, nil := s.nil, spot := (adr s.loc ((row - dof s.loc.cap row d) * wd)).spot }
  have hadr : ∀ o, adr L o = (adr s.loc ((row - dof s.loc.cap row d) * wd)).add o := fun o => adr_off s.loc _ o L rfl rfl rfl
  let F1 : List Nat := if len = 0 then [] else [s.blk]
  have hρ : ∀ j, lt n j → (fun j => if j = n then L else ρ j) j = ρ j := fun j hj => by simp only [lt] at hj; simp [Nat.ne_of_lt hj]
  have hblk : 0 < len → s.loc.nil = false ∧ s.blk ∈ φ k := fun hpos => by
    obtain ⟨k1, k2, _⟩ := hN3 row (by omega)
    refine ⟨k1, ?_⟩
    rw [hF]
    cases q with
    | nil => exact List.mem_append.2 (.inl k2)
    | cons y q => exact List.mem_append.2 (.inr k2)
  have hd : 0 < len → dof s.loc.cap row d = 0 := fun hpos => by
    obtain ⟨_, h2, _⟩ := hn2 (hblk hpos).1
    rcases h2 with h2 | h2 <;> omega
  have hF1 : ∀ b ∈ F1, 0 < len ∧ b = s.blk := fun b hb => by
    simp only [F1] at hb
    split at hb
    · cases hb
    · simp at hb; exact ⟨by omega, hb⟩
  have hent : EntAt (.ro wd len g1) (fun j => if j = n then L else ρ j) (lt (n + 1)) L F1 w := by
    by_cases h0 : len = 0
    · exact .inl ⟨h0, by simp [F1, h0]⟩
    · have hpos : 0 < len := by omega
      refine .inr ⟨(hblk hpos).1, by simp [F1, h0, L], fun i hi => ?_⟩
      obtain ⟨e1, e2⟩ := hg i hi
      obtain ⟨_, _, k3⟩ := hN3 (row + i) (by omega)
      have cell : ∀ c, c < wd → w.cell? (adr L (i * wd + c)) = (g1 i)[c]? ∧ ∀ x, (g1 i)[c]? = some x → x.oneCell' = true := fun c hc => by
        obtain ⟨x, e3, e4⟩ := e2 c hc
        obtain ⟨k4, k5, _⟩ := k3 c hc
        rw [e4] at k4 k5
        rw [hadr, adr_add, e3, hd hpos, Nat.sub_zero]
        refine ⟨?_, fun y hy => by cases hy; exact k5⟩
        rw [show row * wd + (i * wd + c) = (row + i) * wd + c by rw [Nat.add_mul]; omega]
        exact k4
      refine ⟨e1, fun x hx => ?_, fun c hc => (cell c hc).1⟩
      obtain ⟨c, hc⟩ := List.getElem?_of_mem hx
      have hcw : c < wd := by have := (List.getElem?_eq_some_iff.1 hc).1; omega
      exact (cell c hcw).2 x hc
  have g2 := g.put_ro (.ro wd len g1) L F1 rfl hent (fun b hb => by
      obtain ⟨h1, rfl⟩ := hF1 b hb
      exact g.hm.sz k _ hk _ (hblk h1).2) (fun k' e' hk' ho b hb hb' => by
      obtain ⟨h1, rfl⟩ := hF1 b hb'
      have hne : k' ≠ k := fun e => by
        subst e; rw [hk] at hk'; cases hk'; cases ho
      exact g.hm.dj k' k e' _ hk' hk hne ho _ hb (hblk h1).2) (fun b hb => by
      obtain ⟨h1, rfl⟩ := hF1 b hb
      exact g.fx k _ hk _ (hblk h1).2)
  have hval : (LV.s n wd 0 len 0).at (fun j => if j = n then L else ρ j) = (LV.fs k q wd row len d).at ρ := by
    simp only [LV.at, if_true]
    show (if s.nil then _ else _) = if s.loc.nil then _ else _
    rw [show s.loc.nil = s.nil from rfl]
    split
    · rfl
    · rw [hadr, dof0, show (0 - 0) * wd = 0 by simp]
      rfl
  have key := he.2 G' hG' _ _ w g2 (fun x hx => by
    rcases List.mem_append.1 hx with hx | hx
    · exact AV.ok_mono hρ (fun k hk => Nat.lt_succ_of_lt hk) (hok x (List.mem_append.2 (.inl hx)))
    · rcases List.mem_cons.1 hx with rfl | hx
      · refine ⟨Nat.lt_succ_self n, fun hh => hn1 (by have : L.nil = true := (by simpa using hh); exact this), fun hh => ⟨?_, .inl (dof0 _ _), Nat.le_refl _⟩⟩
        have hh : s.nil = false := by simpa using hh
        have h3 := (hn2 hh).1
        have h4 : row + len ≤ s.cap := h3
        simp only [if_true]
        show 0 + len ≤ s.cap - row
        omega
      · exact AV.ok_mono hρ (fun k hk => Nat.lt_succ_of_lt hk) (hok x (List.mem_append.2 (.inr (List.mem_cons_of_mem _ hx)))))
  have e1 : (xs ++ AV.l (.s n wd 0 len 0) :: ys).map (AV.at fun j => if j = n then L else ρ j) = (xs ++ AV.l (.fs k q wd row len d) :: ys).map (AV.at ρ) := by
    simp only [List.map_append, List.map_cons]
    rw [List.map_congr_left fun x hx => AV.at_mono hρ (hok x (List.mem_append.2 (.inl hx))), List.map_congr_left fun x hx => AV.at_mono hρ (hok x (List.mem_append.2 (.inr (List.mem_cons_of_mem _ hx))))]
    rw [show (AV.l (.s n wd 0 len 0)).at (fun j => if j = n then L else ρ j) = (AV.l (.fs k q wd row len d)).at ρ from hval]
  rw [e1] at key
  refine key.mono fun e w' ⟨x, u, n', ρ', φ', h1, h2, h3, h4, h5, h6⟩ => ⟨x, _, n', ρ', φ', h1, h2, Nat.le_of_succ_le h3, fun k hk => ?_, by simpa using h5, h6⟩
  rw [h4 k (Nat.lt_succ_of_lt hk)]
  exact hρ k hk
end Go.Sx
