/- part -/
import Derived.Test.YtlkfolopbehikaaGreatSxX
import Derived.Test.YtlkfolopbehikaaGreatSxZ
set_option linter.unusedSimpArgs false
set_option linter.unusedVariables false
namespace Go.Sx
open Go
theorem ZAW.trans {h1 h2 h3 : Heap} {n1 n2 n3 : Nat} (a : ZAW h1 n1 h2 n2) (b : ZAW h2 n2 h3 n3) : ZAW h1 n1 h3 n3 := by
 refine ⟨Nat.le_trans a.1 b.1, fun ρ φ w hm => ?_⟩
 obtain ⟨ρ2, φ2, e1, e2, e3, e4⟩ := a.2 ρ φ w hm
 obtain ⟨ρ3, φ3, f1, f2, f3, f4⟩ := b.2 ρ2 φ2 w e2
 refine ⟨ρ3, φ3, fun k hk => by rw [f1 k (Nat.lt_of_lt_of_le hk a.1), e1 k hk], f2, fun k e hk ho b hb => ?_, fun k e hk b hb => ?_⟩
 ·obtain ⟨k0, e0, q1, q2, q3⟩ := f3 k e hk ho b hb
  exact e3 k0 e0 q1 q2 b q3
 ·obtain ⟨k0, e0, q1, q2⟩ := f4 k e hk b hb
  exact e4 k0 e0 q1 b q2
theorem ZAW.frame {pre : Heap} {np : Nat} {H : Heap} {M : Nat} (g : ZAW pre np H M) (l : List Nat) {h : Heap} {n : Nat} (hnp : l.length = np) (hl : l.all (fun j => decide (j < n)) = true) (hpre : ZBB (ren1 l n) h pre) (hap : ZBv (ren1 l n) pre = true)
  (hpost : ZEv (ren2 l n) M H = true) : ZAW h n ((renH (ren2 l n) H ++ tomb (ren1 l n) pre) ++ h) (n + (M - np)) := by
 subst hnp
 refine ⟨Nat.le_add_right _ _, fun ρ φ w hm => ?_⟩
 obtain ⟨ρ1, φ1, e1, e2, e3, _⟩ := g.2 _ _ w (ZLT hm l hpre hap)
 obtain ⟨ρ2, φ2, a1, a2, a3, a4, a5, a6, a7⟩ := ZIv hm l hl hpre g.1 e1 e2 (ZI3 w _) (fun k e hk ho b hb => .inl (e3 k e hk ho b hb)) hpost
 refine ⟨ρ2, φ2, a1, a4, fun j e hj ho b hb => ?_, fun j e hj b hb => ?_⟩
 ·rcases a5 j e hj ho b hb with h1 | h1
  ·exact h1
  ·have := a4.sz j e hj b hb; omega
 ·rcases a6 j e hj b hb with h1 | h1
  ·exact h1
  ·have := a4.sz j e hj b hb; omega
theorem ZIw {G : Ctx} {h h2 : Heap} {n n2 : Nat} (hg : ZAW h n h2 n2) {ρ : Env} {φ : Nat -> List Nat} {w : World} (g : GM G h (lt n) ρ φ w) : ∃ ρ2 φ2, (∀ k, k < n -> ρ2 k = ρ k) /\ GM G h2 (lt n2) ρ2 φ2 w := by
 obtain ⟨ρ2, φ2, e1, e2, e3, e4⟩ := hg.2 ρ φ w g.hm
 exact ⟨ρ2, φ2, e1, ZGL g hg.1 e1 e2 (ZI3 w _) (fun j e hj ho b hb => .inl (e3 j e hj ho b hb)) fun j e hj b hb => .inl (e4 j e hj b hb)⟩
theorem ZLU {G : Ctx} {f : FuncId} {xs : List AV} {h v : Heap} {n n2 : Nat} {K : SV -> Heap -> Nat -> Prop} (hg : ZAW h n (v ++ h) n2) (he : CallP G f xs (v ++ h) n2 fun x u n' => K x (u ++ v) n') : CallP G f xs h n K := by
 rw [ZCd] at he ⊢
 refine ⟨he.1, fun G' hG' ρ φ w g hok => ?_⟩
 obtain ⟨ρ2, φ2, e1, e2⟩ := ZIw hg g
 have hD : ∀ k, lt n k -> lt n2 k := fun k hk => Nat.lt_of_lt_of_le hk hg.1
 have := he.2 G' hG' ρ2 φ2 w e2 fun x hx => AV.ok_mono (fun k hk => e1 k hk) hD (hok x hx)
 rw [show xs.map (AV.at ρ2) = xs.map (AV.at ρ) from List.map_congr_left fun x hx => AV.at_mono (fun k hk => e1 k hk) (hok x hx)] at this
 refine this.mono fun e w' ⟨x, u, n', ρ', φ', q1, q2, q3, q4, q5, q6⟩ => ⟨x, u ++ v, n', ρ', φ', q1, q2, Nat.le_trans hg.1 q3, fun k hk => by rw [q4 k (hD k hk), e1 k hk], ?_, q6⟩
 rw [List.append_assoc]; exact q5
theorem ZAM {G : Ctx} {rc : AV} {nm : String} {xs : List AV} {h v : Heap} {n n2 : Nat} {K : SV -> Heap -> Nat -> Prop} (hg : ZAW h n (v ++ h) n2) (he : InvP G rc nm xs (v ++ h) n2 fun x u n' => K x (u ++ v) n') : InvP G rc nm xs h n K := by
 rw [ZD9] at he ⊢
 intro G' hG' ρ φ w g hrc hok
 obtain ⟨ρ2, φ2, e1, e2⟩ := ZIw hg g
 have hD : ∀ k, lt n k -> lt n2 k := fun k hk => Nat.lt_of_lt_of_le hk hg.1
 have := he G' hG' ρ2 φ2 w e2 (AV.ok_mono (fun k hk => e1 k hk) hD hrc) fun x hx => AV.ok_mono (fun k hk => e1 k hk) hD (hok x hx)
 rw [show xs.map (AV.at ρ2) = xs.map (AV.at ρ) from List.map_congr_left fun x hx => AV.at_mono (fun k hk => e1 k hk) (hok x hx), AV.at_mono (fun k hk => e1 k hk) hrc] at this
 obtain ⟨f, args, q0, hc⟩ := this
 refine ⟨f, args, q0, hc.mono fun e w' ⟨x, u, n', ρ', φ', q1, q2, q3, q4, q5, q6⟩ => ⟨x, u ++ v, n', ρ', φ', q1, q2, Nat.le_trans hg.1 q3, fun k hk => by rw [q4 k (hD k hk), e1 k hk], ?_, q6⟩⟩
 rw [List.append_assoc]; exact q5
theorem ZBH {np : Nat} {x : SV} {h h2 : Heap} {n n2 : Nat} {Q : SV -> Heap -> Nat -> Prop} (hg : ZAW h n h2 n2) (hnp : np <= n) (he : FinP np x h2 n2 Q) : FinP np x h n Q := by
 refine ⟨fun ρ φ w hm hok => ?_⟩
 obtain ⟨ρ2, φ2, e1, e2, e3, e4⟩ := hg.2 ρ φ w hm
 have hD : ∀ k, lt n k -> lt n2 k := fun k hk => Nat.lt_of_lt_of_le hk hg.1
 obtain ⟨x', h', n', ρ', φ', k1, hQ, k2, k3, k4, k5, k6⟩ := he.out ρ2 φ2 w e2 (SV.ok_mono (fun k hk => e1 k hk) hD hok)
 rw [SV.at_mono (D := lt n) (fun k hk => e1 k hk) hok] at k1
 refine ⟨x', h', n', ρ', φ', k1, hQ, k2, fun k hk => ⟨Nat.lt_of_lt_of_le hk hnp, by rw [(k3 k hk).2, e1 k (Nat.lt_of_lt_of_le hk hnp)]⟩, k4, k5, fun k e hk ho b hb => ?_⟩
 obtain ⟨k0, e0, q1, q2, q3⟩ := k6 k e hk ho b hb
 exact e3 k0 e0 q1 q2 b q3
theorem ZFW {G : Ctx} {r : Regs} {h h2 : Heap} {n n2 : Nat} (hg : ZAW h n h2 n2) : Imp G r h n r h2 n2 := fun a w ⟨ρ, φ, g, hr, h3, h4⟩ => by
 obtain ⟨ρ2, φ2, e1, e2⟩ := ZIw hg g
 exact ⟨ρ2, φ2, e2, hr.mono (fun k hk => e1 k hk) fun k hk => Nat.lt_of_lt_of_le hk hg.1, h3, h4⟩
theorem ZAE.ghost {P : Program} {f : FuncId} {pre pre2 : Heap} {np np2 : Nat} {args : List AV} {Q : SV -> Heap -> Nat -> Prop} (hg : ZAW pre np pre2 np2) (h : ZAE P f pre2 np2 args Q) : ZAE P f pre np args Q := by
 refine ⟨h.1, fun ρ φ w hm hok hgw hgf => ?_⟩
 obtain ⟨ρ2, φ2, e1, e2, e3, e4⟩ := hg.2 ρ φ w hm
 have own : ∀ b, Own pre2 φ2 b -> Own pre φ b := fun b ⟨k, e, hk, ho, hb⟩ => e3 k e hk ho b hb
 have hD : ∀ k, lt np k -> lt np2 k := fun k hk => Nat.lt_of_lt_of_le hk hg.1
 have := h.2 ρ2 φ2 w e2 (fun x hx => AV.ok_mono (fun k hk => e1 k hk) hD (hok x hx)) hgw fun b vs hb ho => hgf b vs hb (own b ho)
 rw [show args.map (AV.at ρ2) = args.map (AV.at ρ) from List.map_congr_left fun x hx => AV.at_mono (fun k hk => e1 k hk) (hok x hx)] at this
 refine this.mono fun e w' ⟨x, h', n', ρ', φ', q1, q2, q3, q4, q5, q6, q7, q8⟩ => ⟨x, h', n', ρ', φ', q1, q2, Nat.le_trans hg.1 q3, fun k hk => by rw [q4 k (Nat.lt_of_lt_of_le hk hg.1), e1 k hk], q5, q6,
  ⟨q7.size, fun b hb hn => q7.blk b hb fun ho => hn (own b ho), q7.os, q7.tape, q7.output⟩, fun k e hk ho b hb => ?_⟩
 rcases q8 k e hk ho b hb with h1 | h1
 ·exact .inl (own b h1)
 ·exact .inr h1
theorem ZAE.refin {P : Program} {f : FuncId} {pre : Heap} {np : Nat} {args : List AV} {Q Q' : SV -> Heap -> Nat -> Prop} (h : ZAE P f pre np args Q) (hq : ∀ x h n, Q x h n -> np <= n -> FinP np x h n Q') : ZAE P f pre np args Q' := by
 refine ⟨h.1, fun ρ φ w hm hok hgw hgf => (h.2 ρ φ w hm hok hgw hgf).mono fun e w' ⟨x, h', n', ρ', φ', q1, q2, q3, q4, q5, q6, q7, q8⟩ => ?_⟩
 obtain ⟨x2, h2, n2, ρ2, φ2, k1, hQ, k2, k3, k4, k5, k6⟩ := (hq x h' n' q2 q3).out ρ' φ' w' q5 q6
 refine ⟨x2, h2, n2, ρ2, φ2, by rw [q1, k1], hQ, k2, fun k hk => by rw [(k3 k hk).2, q4 k hk], k4, k5, q7, fun k e hk ho b hb => ?_⟩
 obtain ⟨k0, e0, r1, r2, r3⟩ := k6 k e hk ho b hb
 exact q8 k0 e0 r1 r2 b r3
def ZAl (H : Heap) (np : Nat) : List Loc -> Loc -> List Nat -> World -> Prop := fun ls l F w =>
 ∃ ρ φ, ρ 0 = l /\ (∀ i x, ls[i]? = some x -> ρ (i + 1) = x) /\ HM H (lt np) ρ φ w /\ ∀ b, b ∈ F ↔ ∃ k e, hget H k = some e /\ b ∈ φ k
theorem ZB3 (H : Heap) (np : Nat) (ls : List Loc) : ZDb (ZAl H np ls) := fun l F w w' ⟨ρ, φ, h1, h2, h3, h4⟩ hw => by
 have hb : ∀ k e, hget H k = some e -> ∀ b ∈ φ k, w'.heap[b]? = w.heap[b]? := fun k e hk b hb => hw b ((h4 b).2 ⟨k, e, hk, hb⟩)
 refine ⟨ρ, φ, h1, h2, ⟨fun k e hk => ZBl.mono (fun _ _ => rfl) (fun _ h => h) (hb k e hk) (h3.at_ k e hk), h3.lt, h3.dj, fun k e hk b hbm => ?_⟩, h4⟩
 have h5 := h3.sz k e hk b hbm
 have h6 := hb k e hk b hbm
 rw [Array.getElem?_eq_getElem h5] at h6
 exact (Array.getElem?_eq_some_iff.1 h6).1
def ZDw (e : Nat) : List Nat := (List.range e).map (· + 1)
def ZFX (H : Heap) (np e : Nat) : Ent := .ob (ZDw e) (ZAl H np)
theorem ZAV (H : Heap) (np e : Nat) (he : e + 1 <= np) : ZAW [(0, some (ZFX H np e))] (e + 1) H np := by
 refine ⟨he, fun ρ φ w hm => ?_⟩
 obtain ⟨h1, h2, ρ0, φ0, q1, q2, q3, q4⟩ := hm.at_ 0 (ZFX H np e) rfl
 refine ⟨ρ0, φ0, fun k hk => ?_, q3, fun k e' hk ho b hb => ⟨0, _, rfl, rfl, (q4 b).2 ⟨k, e', hk, hb⟩⟩, fun k e' hk b hb => ⟨0, _, rfl, (q4 b).2 ⟨k, e', hk, hb⟩⟩⟩
 cases k with
 | zero => exact q1
 | succ k =>
  have hke : k < e := Nat.lt_of_succ_lt_succ hk
  refine q2 k (ρ (k + 1)) ?_
  simp [ZDw, hke]
def ZGv (H : Heap) : Bool := H.all fun p => ownO p.2 || p.2.isNone
theorem ZLV {H : Heap} (h : ZGv H = true) {k : Nat} {e : Ent} (hk : hget H k = some e) : e.own = true := by
 unfold ZGv at h
 rw [List.all_eq_true] at h
 have := h _ (ZAa hk)
 simpa [ownO] using this
theorem ZNK (H : Heap) (np e : Nat) (he : e + 1 <= np) (hown : ZGv H = true) : ZAW H np [(0, some (ZFX H np e))] np := by
 refine ⟨Nat.le_refl _, fun ρ φ w hm => ?_⟩
 let F : List Nat := (List.range np).flatMap fun k => match hget H k with | some _ => φ k | none => []
 have hF : ∀ b, b ∈ F ↔ ∃ k e, hget H k = some e /\ b ∈ φ k := fun b => by
  simp only [F, List.mem_flatMap, List.mem_range]
  constructor
  ·rintro ⟨k, hk, hb⟩
   cases hq : hget H k with
   | none => rw [hq] at hb; cases hb
   | some e => rw [hq] at hb; exact ⟨k, e, hq, hb⟩
  ·rintro ⟨k, e, hk, hb⟩
   exact ⟨k, hm.lt k e hk, by rw [hk]; exact hb⟩
 have one : ∀ k e', hget [(0, some (ZFX H np e))] k = some e' -> k = 0 /\ e' = ZFX H np e := fun k e' hk => by
  rw [ZAJ] at hk
  split at hk
  ·rename_i h0; cases hk; exact ⟨h0.symm, rfl⟩
  ·simp [hget] at hk
 refine ⟨ρ, fun _ => F, fun _ _ => rfl, ⟨fun k e' hk => ?_, fun k e' hk => ?_, fun k k' e' e2 hk hk' hne => ?_, fun k e' hk b hb => ?_⟩, fun k e' hk ho b hb => ?_, fun k e' hk b hb => ?_⟩
 ·obtain ⟨rfl, rfl⟩ := one k e' hk
  refine ⟨ZB3 _ _ _, fun k hk => ?_, ρ, φ, rfl, fun i x hx => ?_, hm, hF⟩
  ·simp only [ZDw, List.mem_map, List.mem_range] at hk
   obtain ⟨j, hj, rfl⟩ := hk
   show j + 1 < np
   omega
  ·simp only [ZDw, List.map_map, List.getElem?_map] at hx
   cases hr : (List.range e)[i]? with
   | none => rw [hr] at hx; cases hx
   | some j =>
    rw [hr] at hx
    simp only [Option.map_some, Option.some.injEq] at hx
    have : i = j := by
     obtain ⟨h1, h2⟩ := List.getElem?_eq_some_iff.1 hr
     simpa using h2
    subst this
    exact hx
 ·obtain ⟨rfl, rfl⟩ := one k e' hk
  show 0 < np
  omega
 ·obtain ⟨rfl, rfl⟩ := one k e' hk
  obtain ⟨rfl, rfl⟩ := one k' e2 hk'
  exact absurd rfl hne
 ·obtain ⟨k0, e0, h1, h2⟩ := (hF b).1 hb
  exact hm.sz k0 e0 h1 b h2
 ·obtain ⟨k0, e0, h1, h2⟩ := (hF b).1 hb
  exact ⟨k0, e0, h1, ZLV hown h1, h2⟩
 ·obtain ⟨k0, e0, h1, h2⟩ := (hF b).1 hb
  exact ⟨k0, e0, h1, h2⟩
theorem ZAS {h : Heap} {n : Nat} (k : Nat) {ks : List Nat} {H : Heap} {np : Nat} (hk : hget h k = some (.ob ks (ZAl H np))) (hn : ks.length + 1 <= np) (hl : (k :: ks).all (fun j => decide (j < n)) = true)
  (hap : ZBv (ren1 (k :: ks) n) [(0, some (ZFX H np ks.length))] = true) (hpost : ZEv (ren2 (k :: ks) n) np H = true) :
  ZAW h n ((renH (ren2 (k :: ks) n) H ++ [(k, none)]) ++ h) (n + (np - (ks.length + 1))) := by
 have hks : ks = (ZDw ks.length).map (ren1 (k :: ks) n) := by
  apply List.ext_getElem?
  intro i
  simp only [ZDw, List.map_map, List.getElem?_map]
  by_cases hi : i < ks.length
  ·rw [List.getElem?_range hi]
   simp only [Option.map_some, Function.comp, ren1]
   rw [show nth (k :: ks) (i + 1) = ks[i]? from by rw [ZAc]; rfl, List.getElem?_eq_getElem hi]
  ·rw [List.getElem?_eq_none (by omega), List.getElem?_eq_none (by simp; omega)]; rfl
 have := ZAW.frame (ZAV H np ks.length hn) (k :: ks) (h := h) (n := n) rfl hl (by
  refine ⟨?_, trivial⟩
  show (match hget h k with | some e' => ZCe _ e' _ | none => False)
  rw [hk]
  exact ⟨hks, .inl rfl⟩) hap hpost
 exact this
theorem ZDF {h : Heap} {n : Nat} (l : List Nat) {H : Heap} {np : Nat} (e : Nat) (hn : l.length = np) (he : e + 1 <= np) (hown : ZGv H = true) (hl : l.all (fun j => decide (j < n)) = true) (hpre : ZBB (ren1 l n) h H) (hap : ZBv (ren1 l n) H = true) :
  ZAW h n (([((ren1 l n) 0, some (.ob ((ZDw e).map (ren1 l n)) (ZAl H np)))] ++ tomb (ren1 l n) H) ++ h) n := by
 have := ZAW.frame (ZNK H np e he hown) l (h := h) (n := n) hn hl hpre hap (by simp [ZEv, ZKD, ownO, ZFX, Ent.own]; omega)
 rw [Nat.sub_self, Nat.add_zero] at this
 have e0 : ∀ k, k < np -> ren2 l n k = ren1 l n k := fun k hk => ZMB (by omega)
 have e1 : renH (ren2 l n) [(0, some (ZFX H np e))] = [((ren1 l n) 0, some (.ob ((ZDw e).map (ren1 l n)) (ZAl H np)))] := by
  simp only [renH, List.map_cons, List.map_nil, Option.map_some, ZFX, Ent.ren]
  rw [e0 0 (by omega)]
  have e2 : (ZDw e).map (ren2 l n) = (ZDw e).map (ren1 l n) := List.map_congr_left fun k hk => by
   simp only [ZDw, List.mem_map, List.mem_range] at hk
   obtain ⟨j, hj, rfl⟩ := hk
   exact e0 _ (by omega)
  rw [e2]
 rw [e1] at this
 exact this
theorem ZKE {h : Heap} {D : Nat -> Prop} {ρ : Env} {φ : Nat -> List Nat} {w : World} (g : HM h D ρ φ w) {k : Nat} {cs cs' : List LV} (hk : hget h k = some (.st cs)) (he : cs'.map (LV.at ρ) = cs.map (LV.at ρ)) (hok : ∀ x ∈ cs', x.ok ρ D) : HM ((k, some (.st cs')) :: h) D ρ φ w := by
 have old : ∀ j e, hget ((k, some (.st cs')) :: h) j = some e -> ∃ e', hget h j = some e' /\ e'.own = e.own /\ ZBl e ρ D (ρ j) (φ j) w := fun j e hj => by
  rw [ZAJ] at hj
  split at hj
  ·rename_i hh; subst hh; cases hj
   obtain ⟨h1, h2, h3, ⟨t, h4⟩, h5⟩ := g.at_ _ _ hk
   exact ⟨_, hk, rfl, h1, h2, h3, ⟨t, by rw [he]; exact h4⟩, hok⟩
  ·exact ⟨e, hj, rfl, g.at_ j e hj⟩
 exact ⟨fun j e hj => (by obtain ⟨_, _, _, h⟩ := old j e hj; exact h), fun j e hj => (by obtain ⟨_, h, _, _⟩ := old j e hj; exact g.lt j _ h), fun j j' e e' hj hj' hne ho => (by
  obtain ⟨e1, h1, h2, _⟩ := old j e hj
  obtain ⟨e2, h3, _, _⟩ := old j' e' hj'
  exact g.dj j j' e1 e2 h1 h3 hne (by rw [h2]; exact ho)), fun j e hj => (by obtain ⟨e1, h1, _, _⟩ := old j e hj; exact g.sz j e1 h1)⟩
theorem ZAW.nilc {h : Heap} {n : Nat} (k j wd : Nat) (f : Nat -> List Value) {cs : List LV} (hk : hget h k = some (.st cs)) (hj : nth cs j = some (.v (.slice none 0 0))) : ZAW h n ((k, some (.st (setL cs j (.s n wd 0 0 0)))) :: (n, some (.ar wd 0 f)) :: h) (n + 1) := by
 refine ⟨Nat.le_succ n, fun ρ φ w hm => ?_⟩
 have hρ : ∀ k, lt n k -> (fun k => if k = n then nilL else ρ k) k = ρ k := fun k hk => by simp only [lt] at hk; simp [Nat.ne_of_lt hk]
 have hkn : k ≠ n := Nat.ne_of_lt (hm.lt k _ hk)
 have g1 := ZMS hm wd f
 have hk1 : hget ((n, some (.ar wd 0 f)) :: h) k = some (.st cs) := by rw [ZAJ, if_neg (Ne.symm hkn)]; exact hk
 obtain ⟨e1, e2, e3, ⟨t, e4⟩, e5⟩ := g1.at_ k _ hk1
 rw [ZAc] at hj
 have old : ∀ j' e, hget ((k, some (.st (setL cs j (.s n wd 0 0 0)))) :: (n, some (.ar wd 0 f)) :: h) j' = some e -> (j' = n /\ e.own = true) \/ (j' ≠ n /\ ∃ e', hget h j' = some e' /\ e'.own = e.own) := fun j' e hj' => by
  rw [ZAJ] at hj'
  split at hj'
  ·rename_i hh; subst hh; cases hj'
   exact .inr ⟨hkn, _, hk, rfl⟩
  ·rw [ZAJ] at hj'
   split at hj'
   ·rename_i hh; subst hh; cases hj'; exact .inl ⟨rfl, rfl⟩
   ·rename_i hh; exact .inr ⟨Ne.symm hh, e, hj', rfl⟩
 refine ⟨_, _, fun k hk => hρ k hk, ZKE g1 hk1 ?_ fun x hx => ?_, fun j' e hj' ho b hb => ?_, fun j' e hj' b hb => ?_⟩
 ·rw [ZCr, List.map_set]
  apply List.ext_getElem?
  intro i
  rw [List.getElem?_set]
  split
  ·rename_i hij
   subst hij
   have hlt := (List.getElem?_eq_some_iff.1 hj).1
   rw [List.getElem?_map, hj]
   simp [hlt, LV.at, nilL]
  ·rfl
 ·rw [ZCr] at hx
  rcases List.mem_or_eq_of_mem_set hx with hx | rfl
  ·exact e5 x hx
  ·exact ⟨Nat.lt_succ_self n, fun _ => rfl, fun hh => by simp [nilL] at hh⟩
 ·rcases old j' e hj' with ⟨rfl, _⟩ | ⟨h1, e', h2, h3⟩
  ·simp at hb
  ·simp only [h1, if_false] at hb
   exact ⟨j', e', h2, by rw [h3]; exact ho, hb⟩
 ·rcases old j' e hj' with ⟨rfl, _⟩ | ⟨h1, e', h2, h3⟩
  ·simp at hb
  ·simp only [h1, if_false] at hb
   exact ⟨j', e', h2, hb⟩
theorem ZAD {npF : Nat} {x : SV} {h : Heap} {n : Nat} {Q : SV -> Heap -> Nat -> Prop} (k : Nat) {H : Heap} {np : Nat} (e : Nat) (hnpF : npF <= n)
  (hk : ZG9 np [.l (.p 0 0 0 0)] [.l (.p k 0 0 0)] H h fun l => (l.length = np /\ e + 1 <= np /\ ZGv H = true /\ l.all (fun j => decide (j < n)) = true /\ ZBB (ren1 l n) h H /\ ZBv (ren1 l n) H = true) /\
   FinP npF x (([((ren1 l n) 0, some (.ob ((ZDw e).map (ren1 l n)) (ZAl H np)))] ++ tomb (ren1 l n) H) ++ h) n Q) : FinP npF x h n Q := by
 obtain ⟨l, ⟨h1, h2, h3, h4, h5, h6⟩, h7⟩ := ZEH hk
 exact ZBH (ZDF l e h1 h2 h3 h4 h5 h6) hnpF h7
end Go.Sx
