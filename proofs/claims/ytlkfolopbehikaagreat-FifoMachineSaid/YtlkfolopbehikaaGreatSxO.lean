/- part -/
import Derived.Test.YtlkfolopbehikaaGreatSxN
import Derived.Deep.LoopGhost
set_option linter.unusedSimpArgs false
set_option linter.unusedVariables false
set_option linter.unusedSectionVars false
namespace Go.Sx
open Go
theorem Act.put_size (a : Act) (d : Option Nat) (v : Value) : (a.put d v).tmps.size = a.tmps.size := by cases d <;> simp [Act.put]
theorem Act.put_defers' (a : Act) (d : Option Nat) (v : Value) : (a.put d v).defers = a.defers := by cases d <;> rfl
section
variable {G : Ctx}
theorem ZLR {r : Regs} {h : Heap} {n : Nat} {ρ : Env} {φ : Nat -> List Nat} {a : Act} {w : World} {x : SV} {d : Option Nat} (g : GM G h (lt n) ρ φ w) (hr : RM r (lt n) ρ a) (hs : a.tmps.size = G.N) (hd : a.defers = []) (hx : x.ok ρ (lt n)) (hf : ZLL G.N d = true) :
  Sat G (putR d x r) h n (a.put d (x.at ρ)) w := by
 refine ⟨ρ, φ, g, ?_, by rw [Act.put_size]; exact hs, by rw [Act.put_defers']; exact hd⟩
 cases d with
 | none => exact hr
 | some d => exact hr.put (by rw [hs]; simpa [ZLL] using hf) hx
theorem Sat.elim {r : Regs} {h : Heap} {n : Nat} {a : Act} {w : World} (s : Sat G r h n a w) : ∃ ρ φ, GM G h (lt n) ρ φ w /\ RM r (lt n) ρ a /\ a.tmps.size = G.N /\ a.defers = [] := s
theorem ZHo {ρ : Env} {x : SV} {b : Bool} (h : x.at ρ = .bool b) : x = ZAR b := by
 cases x with
 | t xs => simp [SV.at] at h
 | o y =>
  cases y with
  | a xs => simp [SV.at, AV.at] at h
  | l z =>
   cases z with
   | v v => simp [SV.at, AV.at, LV.at] at h; subst h; rfl
   | p => simp [SV.at, AV.at, LV.at] at h
   | s k wd row len d => simp only [SV.at, AV.at, LV.at] at h; split at h <;> cases h
   | i => simp [SV.at, AV.at, LV.at] at h
   | io b t k => simp only [SV.at, AV.at, LV.at] at h; split at h <;> cases h
   | mref => simp [SV.at, AV.at, LV.at] at h
   | stmp => simp [SV.at, AV.at, LV.at] at h
   | fp => simp [SV.at, AV.at, LV.at] at h
   | fs k q wd row len d => simp only [SV.at, AV.at, LV.at] at h; split at h <;> cases h
   | c => simp [SV.at, AV.at, LV.at] at h
theorem ZCx {ops : Array Oper} {Q : Exit -> Act -> World -> Prop} : ∀ (l : List Oper) (is : List IOp) (r : Regs) (h : Heap) (n : Nat) (K : Regs -> Heap -> Nat -> Prop) (a : Act) (w : World), cOps G.P G.N ops l = some is ->
  ZIq (CallP G) (InvP G) (EscP G) is r h n K -> Sat G r h n a w -> (∀ r h n a w, K r h n -> Sat G r h n a w -> Q .normal a w) -> wpList G.P ops Q l a w
 | [], is, r, h, n, K, a, w, hc, he, hs, hQ => by
  simp [cOps] at hc; subst hc
  exact hQ r h n a w he hs
 | o :: l, is, r, h, n, K, a, w, hc, he, hs, hQ => by
  simp only [cOps] at hc
  split at hc
  ·rename_i i is' hi his
   simp only [Option.some.injEq] at hc; subst hc
   unfold cOp at hi
   split at hi
   ·rename_i ii gg hii hgg hfit
    simp only [Option.some.injEq] at hi; subst hi
    obtain ⟨ρ, φ, g, hr, hsz, hdf⟩ := hs
    -- the operation runs
    have run : ∀ (r' : Regs), RM r' (lt n) ρ a -> evI (CallP G) (InvP G) (EscP G) ii r' h n (fun x u n' => catH u h fun h' => match o.dst with
      | some d => ZIq (CallP G) (InvP G) (EscP G) is' ((d, x) :: r') h' n' K
      | none => ZIq (CallP G) (InvP G) (EscP G) is' r' h' n' K) -> o.wp G.P a w (wpList G.P ops Q l) Q := by
     intro r' hr' hev
     refine ZGr g hr' hii hev _ _ fun x u n' ρ' φ' w' hK hn hρ hg hx => ?_
     rw [ZGj] at hK
     have hmono := hr'.mono (D' := lt n') hρ (fun k hk => Nat.lt_of_lt_of_le hk hn)
     have hsat := ZLR (d := o.dst) hg hmono hsz hdf hx hfit
     cases hdst : o.dst with
     | none => rw [hdst] at hK hsat; exact ZCx l is' _ _ _ K _ _ his hK hsat hQ
     | some d => rw [hdst] at hK hsat; exact ZCx l is' _ _ _ K _ _ his hK hsat hQ
    have skip : ∀ (r' : Regs), RM r' (lt n) ρ a -> (match o.dst with
      | some d => ZIq (CallP G) (InvP G) (EscP G) is' ((d, ZBe) :: r') h n K
      | none => ZIq (CallP G) (InvP G) (EscP G) is' r' h n K) -> wpList G.P ops Q l (a.put o.dst undef) w := by
     intro r' hr' hev
     have hsat := ZLR (x := ZBe) (d := o.dst) g hr' hsz hdf trivial hfit
     cases hdst : o.dst with
     | none => rw [hdst] at hev hsat; exact ZCx l is' _ _ _ K _ _ his hev hsat hQ
     | some d => rw [hdst] at hev hsat; exact ZCx l is' _ _ _ K _ _ his hev hsat hQ
    simp only [ZND, ZLK] at he
    cases hgd : o.guard with
    | none =>
     rw [hgd] at hgg
     simp [cG] at hgg; subst hgg
     simp only at he
     unfold wpList
     rw [if_pos (by simp [Region.wanted, hgd])]
     exact .inl (run r hr he)
    | some jw =>
     obtain ⟨j, want⟩ := jw
     rw [hgd] at hgg
     simp only [cG] at hgg
     split at hgg
     ·rename_i dj hdj
      simp only [Option.some.injEq] at hgg; subst hgg
      simp only at he
      have hy : ∀ v, a.tmps[dj]? = some v -> yielded ops a.tmps j = (match v with | .bool b => some b | _ => none) := fun v hv => by
       simp only [yielded, hdj, Option.bind_some, hv]
       cases v <;> rfl
      unfold wpList
      split at he
      ·rename_i b hb
       obtain ⟨h1, h2⟩ := hr dj _ hb
       have hyv := hy _ h1
       simp only [SV.at, AV.at, LV.at] at hyv
       obtain ⟨ht, hf⟩ := ZIr he
       have hren : ∀ b', b = b' -> RM ((dj, ZAR b') :: r) (lt n) ρ a := fun b' hb' => by
        subst hb'; exact hr.renew h1 trivial
       cases b with
       | true =>
        have he := ht rfl
        cases want with
        | true => rw [if_pos (by simp [Region.wanted, hgd, hyv])]; exact .inl (run _ (hren true rfl) he)
        | false => rw [if_neg (by simp [Region.wanted, hgd, hyv])]; exact skip _ (hren true rfl) he
       | false =>
        have he := hf rfl
        cases want with
        | true => rw [if_neg (by simp [Region.wanted, hgd, hyv])]; exact skip _ (hren false rfl) he
        | false => rw [if_pos (by simp [Region.wanted, hgd, hyv])]; exact .inl (run _ (hren false rfl) he)
      ·rename_i x hx hb
       obtain ⟨h1, h2⟩ := hr dj _ hb
       have hyv := hy _ h1
       have hnb : ∀ b, x.at ρ ≠ .bool b := fun b hbb => by
        have := ZHo hbb
        subst this
        exact hx b rfl
       have hyn : yielded ops a.tmps j = none := by
        rw [hyv]
        split
        ·rename_i b hbb; exact absurd hbb (hnb b)
        ·rfl
       rw [if_neg (by simp [Region.wanted, hgd, hyn])]
       exact skip r hr he
      ·exact he.elim
     ·cases hgg
   ·cases hi
  ·cases hc
theorem ZBu : ∀ (c : Code) (ic : IC) (r : Regs) (h : Heap) (n : Nat) (K : X -> Regs -> Heap -> Nat -> Prop) (a : Act) (w : World), cC G.P G.N c = some ic ->
  evC (CallP G) (InvP G) (EscP G) (LoopP G) (DrawP G) ic r h n K -> Sat G r h n a w -> c.wp G.P (QK G K) a w
 | .skip, ic, r, h, n, K, a, w, hc, he, hs => by
  simp [cC] at hc; subst hc
  exact wp_skip ⟨r, h, n, he, hs⟩
 | .label l, ic, r, h, n, K, a, w, hc, he, hs => by
  simp [cC] at hc; subst hc
  exact wp_label ⟨r, h, n, he, hs⟩
 | .region id ops d, ic, r, h, n, K, a, w, hc, he, hs => by
  simp only [cC] at hc
  split at hc
  ·rename_i is his
   cases d with
   | true =>
    simp only [if_true, Option.some.injEq] at hc; subst hc
    simp only [ZC7, ZD3, ZC8, ZD4, ZF1, ZC9, ZD5, ZDA, ZDB, ZD6, cSeq, ZHS, cBlk, ZHT] at he
    rw [ZGK] at he
    exact he id ops his rfl a w hs
   | false =>
    simp only [Bool.false_eq_true, if_false, Option.some.injEq] at hc; subst hc
    simp only [ZC7, ZD3, ZC8, ZD4, ZF1, ZC9, ZD5, ZDA, ZDB, ZD6, cSeq, ZHS, cBlk, ZHT] at he
    exact wp_region_list (ZCx ops.toList is r h n _ a w his he hs fun r h n a w hK hs => ⟨r, h, n, hK, hs⟩)
  ·cases hc
 | .seq x y, ic, r, h, n, K, a, w, hc, he, hs => by
  simp only [cC] at hc
  split at hc
  ·rename_i ix iy hx hy
   simp only [Option.some.injEq] at hc
   unfold seqJ at hc
   cases hq : Nat.ble (ZHU ix) 1 with
   | true =>
    rw [hq] at hc
    simp only [cond_true] at hc; subst hc
    simp only [ZC7, ZD3, ZC8, ZD4, ZF1, ZC9, ZD5, ZDA, ZDB, ZD6, cSeq, ZHS, cBlk, ZHT] at he
    refine wp_seq (wp_mono (ZBu x ix r h n _ a w hx he hs) fun e a w hq => ?_)
    cases e with
    | normal => obtain ⟨r, h, n, hK, hs⟩ := hq; exact ZBu y iy r h n K a w hy hK hs
    | exit id => exact hq
    | ret => exact hq
    | goto l => exact hq.elim
    | panic c => exact hq.elim
    | outgrown => exact hq.elim
   | false =>
    rw [hq] at hc
    simp only [cond_false] at hc; subst hc
    simp only [ZC7, ZD3, ZC8, ZD4, ZF1, ZC9, ZD5, ZDA, ZDB, ZD6, cSeq, ZHS, cBlk, ZHT] at he
    rw [ZFU] at he
    exact he (.seq x y) (by simp only [cC, hx, hy, seqJ, hq, cond_false]) a w hs
  ·cases hc
 | .cond c x y, ic, r, h, n, K, a, w, hc, he, hs => by
  simp only [cC] at hc
  split at hc
  ·rename_i c' ix iy h1 hx hy
   simp only [Option.some.injEq] at hc; subst hc
   simp only [ZC7, ZD3, ZC8, ZD4, ZF1, ZC9, ZD5, ZDA, ZDB, ZD6, cSeq, ZHS, cBlk, ZHT] at he
   split at he
   ·rename_i t
    split at he
    ·rename_i b hb
     obtain ⟨ρ, φ, g, hr, hsz, hdf⟩ := hs
     obtain ⟨h2, h3⟩ := hr t _ hb
     have hcc : c = .tmp t := by
      cases c with
      | tmp u => simp [cO] at h1; subst h1; rfl
      | const u => cases u <;> simp [cO] at h1
      | global g0 => simp [cO] at h1
      | func f => simp [cO] at h1
     subst hcc
     have hev : a.eval (.tmp t) = .bool b := by simp [Act.eval, h2, SV.at, AV.at, LV.at]
     obtain ⟨ht, hf⟩ := ZIr he
     refine wp_cond_split hev (fun hb' => ?_) (fun hb' => ?_)
     ·subst hb'
      exact ZBu x ix _ h n K a w hx (ht rfl) ⟨ρ, φ, g, hr.renew h2 trivial, hsz, hdf⟩
     ·subst hb'
      exact ZBu y iy _ h n K a w hy (hf rfl) ⟨ρ, φ, g, hr.renew h2 trivial, hsz, hdf⟩
    ·exact he.elim
   ·exact he.elim
  ·cases hc
 | .block id b, ic, r, h, n, K, a, w, hc, he, hs => by
  simp only [cC, Option.map_eq_some_iff] at hc
  obtain ⟨ib, hb, rfl⟩ := hc
  simp only [ZC7, ZD3, ZC8, ZD4, ZF1, ZC9, ZD5, ZDA, ZDB, ZD6, cSeq, ZHS, cBlk, ZHT] at he
  refine wp_block (wp_mono (ZBu b ib r h n _ a w hb he hs) fun e a w hq => ?_)
  cases e with
  | normal => exact hq
  | exit j =>
   obtain ⟨r, h, n, hK, hs⟩ := hq
   simp only [Exit.inBlock]
   simp only at hK
   split at hK
   ·rename_i hj
    rw [if_pos (Nat.eq_of_beq_eq_true hj)]
    exact ⟨r, h, n, hK, hs⟩
   ·rename_i hj
    rw [if_neg (fun hjj => by subst hjj; simp at hj)]
    exact ⟨r, h, n, hK, hs⟩
  | ret => exact hq
  | goto l => exact hq.elim
  | panic c => exact hq.elim
  | outgrown => exact hq.elim
 | .loop b, ic, r, h, n, K, a, w, hc, he, hs => by
  simp only [cC, Option.map_eq_some_iff] at hc
  obtain ⟨ib, hb, rfl⟩ := hc
  simp only [ZC7, ZD3, ZC8, ZD4, ZF1, ZC9, ZD5, ZDA, ZDB, ZD6, cSeq, ZHS, cBlk, ZHT] at he
  split at he
  ·exact he.elim
  ·rename_i hne
   rw [ZFU] at he
   split at he
   ·rename_i b' ; exact absurd rfl (hne b')
   ·exact he b hb a w hs
 | .exit id, ic, r, h, n, K, a, w, hc, he, hs => by
  simp [cC] at hc; subst hc
  exact wp_exit ⟨r, h, n, he, hs⟩
 | .ret, ic, r, h, n, K, a, w, hc, he, hs => by
  simp [cC] at hc; subst hc
  exact wp_ret ⟨r, h, n, he, hs⟩
 | .rangeFunc .., ic, r, h, n, K, a, w, hc, he, hs => by simp [cC] at hc
 | .scope _, ic, r, h, n, K, a, w, hc, he, hs => by simp [cC] at hc
 | .goto _, ic, r, h, n, K, a, w, hc, he, hs => by simp [cC] at hc
 | .refuse _, ic, r, h, n, K, a, w, hc, he, hs => by simp [cC] at hc
def Imp (G : Ctx) (r : Regs) (h : Heap) (n : Nat) (r' : Regs) (h' : Heap) (n' : Nat) : Prop := ∀ a w, Sat G r h n a w -> Sat G r' h' n' a w
theorem Imp.refl (r : Regs) (h : Heap) (n : Nat) : Imp G r h n r h n := fun _ _ h => h
theorem Imp.trans {r h n r' h' n' r'' h'' n''} (p : Imp G r h n r' h' n') (q : Imp G r' h' n' r'' h'' n'') : Imp G r h n r'' h'' n'' := fun a w s => q a w (p a w s)
theorem ZLS {α : Type} {b : IC} {r : Regs} {h : Heap} {n : Nat} {K : X -> Regs -> Heap -> Nat -> Prop} (R : α -> Regs) (H : α -> Heap) (N : α -> Nat) (I : α -> Prop) (μ : α -> Nat) (x0 : α) (hI : I x0) (h0 : Imp G r h n (R x0) (H x0) (N x0))
  (hr : ∀ x, I x -> evC (CallP G) (InvP G) (EscP G) (LoopP G) (DrawP G) b (R x) (H x) (N x) fun e r h n => match e with
   | .nrm => ∃ y, I y /\ μ y < μ x /\ Imp G r h n (R y) (H y) (N y)
   | .ex id => K (.ex id) r h n
   | .ret => K .ret r h n) (hb : (match b with | .loop _ => true | _ => false) = false := by rfl) : LoopP G b r h n K := by
 rw [ZFU]
 split
 ·cases hb
 intro c hc a w hs
 refine wp_loop_ghost (P := G.P) (fun m a w => ∃ x, I x /\ μ x = m /\ Sat G (R x) (H x) (N x) a w) (μ x0) ⟨x0, hI, rfl, h0 a w hs⟩ fun m a w ⟨x, hIx, hm, hs⟩ => ?_
 refine wp_mono (ZBu c b _ _ _ _ a w hc (hr x hIx) hs) fun e a w hq => ?_
 cases e with
 | normal =>
  obtain ⟨r, h, n, ⟨y, hy, hlt, himp⟩, hs⟩ := hq
  exact ⟨μ y, by omega, y, hy, rfl, himp a w hs⟩
 | exit id => exact hq
 | ret => exact hq
 | goto l => exact hq.elim
 | panic c => exact hq.elim
 | outgrown => exact hq.elim
theorem ZAH {x y : IC} {r : Regs} {h : Heap} {n : Nat} {K : X -> Regs -> Heap -> Nat -> Prop} (he : evC (CallP G) (InvP G) (EscP G) (LoopP G) (DrawP G) (.seq x y) r h n K) : LoopP G (.loop (.jn x y)) r h n K := by
 rw [ZFU]
 intro c hc a w hs
 cases c with
 | seq cx cy =>
  simp only [cC] at hc
  split at hc
  ·rename_i ix iy hx hy
   simp only [Option.some.injEq] at hc
   unfold seqJ at hc
   cases hq : Nat.ble (ZHU ix) 1 with
   | true => rw [hq] at hc; simp only [cond_true] at hc; cases hc
   | false =>
    rw [hq] at hc
    simp only [cond_false] at hc; cases hc
    simp only [ZC7, ZD3, ZC8, ZD4, ZF1, ZC9, ZD5, ZDA, ZDB, ZD6, cSeq, ZHS, cBlk, ZHT] at he
    refine wp_seq (wp_mono (ZBu cx x r h n _ a w hx he hs) fun e a w hq => ?_)
    cases e with
    | normal => obtain ⟨r, h, n, hK, hs⟩ := hq; exact ZBu cy y r h n K a w hy hK hs
    | exit id => exact hq
    | ret => exact hq
    | goto l => exact hq.elim
    | panic c => exact hq.elim
    | outgrown => exact hq.elim
  ·cases hc
 | region id ops d => simp only [cC] at hc; split at hc <;> first | (split at hc <;> cases hc) | cases hc
 | cond c a b => simp only [cC] at hc; split at hc <;> cases hc
 | block id b => simp only [cC, Option.map_eq_some_iff] at hc; obtain ⟨_, _, hc⟩ := hc; cases hc
 | loop b => simp only [cC, Option.map_eq_some_iff] at hc; obtain ⟨_, _, hc⟩ := hc; cases hc
 | _ => simp [cC] at hc
end
end Go.Sx
