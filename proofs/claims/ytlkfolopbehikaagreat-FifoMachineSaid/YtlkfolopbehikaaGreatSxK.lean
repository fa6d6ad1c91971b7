/- part -/
import Derived.Test.YtlkfolopbehikaaGreatSxJ
set_option linter.unusedSimpArgs false
set_option linter.unusedVariables false
set_option linter.unusedSectionVars false
namespace Go.Sx
open Go
section
variable {G : Ctx} {o : Oper} {a : Act} {r : Regs} {h : Heap} {D : Nat -> Prop} {n : Nat} {ρ : Env} {φ : Nat -> List Nat} {w : World} {K : SV -> Heap -> Nat -> Prop}
variable (g : GM G h D ρ φ w) (hr : RM r D ρ a)
include g
theorem ZJ7 {k wd row len d m : Nat} {f : Nat -> List Value} {e : Ent} (hk : hget h k = some e) (he : e = .ar wd m f \/ e = .ro wd m f) (hok : (LV.s k wd row len d).ok ρ D) (hm : row + len <= m) :
  (((LV.s k wd row len d).at ρ = .slice none 0 0 /\ len = 0) \/ ∃ ad c, (LV.s k wd row len d).at ρ = .slice (some ad) len c /\ ∀ i, i < len -> ∀ j, j < wd -> w.cell? (ad.add (i * wd + j)) = (f (nadd row i))[j]?) /\
   ∀ i, i < len -> (f (nadd row i)).length = wd /\ (∀ x ∈ f (nadd row i), x.oneCell' = true) := by
 obtain ⟨hD, hn1, hn2⟩ := hok
 have hE := g.hm.at_ k e hk
 have hcells : (ρ k).nil = false \/ len = 0 := by
  cases hh : (ρ k).nil with
  | true => exact .inr (hn1 hh)
  | false => exact .inl rfl
 have hf : ∀ i, i < len -> (f (nadd row i)).length = wd /\ (∀ x ∈ f (nadd row i), x.oneCell' = true) /\ ∀ j, j < wd -> w.cell? (adr (ρ k) ((nadd row i) * wd + j)) = (f (nadd row i))[j]? := by
  intro i hi
  have hlt : nadd row i < m := by rw [ZAO]; omega
  rcases he with rfl | rfl
  ·rcases hE with ⟨_, h0, _⟩ | ⟨h1, h2, h3, h4, h5, cs, t, h6, h7, h8⟩
   ·omega
   ·obtain ⟨h9, h10, h11⟩ := h8 _ hlt
    refine ⟨h9, h10, fun j hj => ?_⟩
    rw [<- h11 j hj]
    simp [World.cell?, adr, h6, h2]
  ·rcases hE with ⟨h0, _⟩ | ⟨h1, h3, h8⟩
   ·omega
   ·exact h8 _ hlt
 refine ⟨?_, fun i hi => ⟨(hf i hi).1, (hf i hi).2.1⟩⟩
 cases hh : (ρ k).nil with
 | true => exact .inl ⟨by simp [LV.at, hh], hn1 hh⟩
 | false =>
  obtain ⟨q1, q2, q3⟩ := hn2 hh
  refine .inr ⟨_, _, by simp [LV.at, hh]; exact ⟨rfl, rfl⟩, fun i hi j hj => ?_⟩
  have hd0 : dof (ρ k).cap row d = 0 := by rcases q2 with h0 | h0 <;> omega
  rw [hd0, ZCB, <- (hf i hi).2.2 j hj, ZAO]
  congr 2
  simp [Nat.add_mul]; omega
theorem ZF4 {wd m : Nat} {f f' : Nat -> List Value} {D' : Nat -> Prop} {l : Loc} {F : List Nat} {w' : World} (hf : ∀ i, i < m -> f i = f' i) (h : ZBl (.ar wd m f) ρ D' l F w') : ZBl (.ar wd m f') ρ D' l F w' := by
 rcases h with h | ⟨h1, h2, h3, h4, h5, cs, t, h6, h7, h8⟩
 ·exact .inl h
 ·exact .inr ⟨h1, h2, h3, h4, h5, cs, t, h6, h7, fun i hi => by rw [<- hf i hi]; exact h8 i hi⟩
theorem ZLP (hn : ¬ D n) {S X : Operand} {t e : TypeId} {ti : TypeInfo} {zv : Value} {args : Array Operand} {ats : Array TypeId} (ho : o.op = .call { callee := .builtin .append, args := args, argTypes := ats }) (hargs : args.toList = [S, X]) (hats : ats.toList = [t, t])
  (ht : G.P.underlying t = some (.slice e)) (hti : G.P.info? e = some ti) (hz1 : ti.zero = some zv) (hz2 : zv.cells.size = ti.size) (hb0 : ti.bytes ≠ 0) (hsz0 : ti.size ≠ 0)
  (sv xv : Value) (len len2 : Nat) (f f2 : Nat -> List Value) (sb : Option Nat) (hS : a.eval S = sv) (hX : a.eval X = xv)
  (hf : ∀ i, i < len -> (f i).length = ti.size /\ (∀ x ∈ f i, x.oneCell' = true))
  (hg : ∀ i, i < len2 -> (f2 i).length = ti.size /\ (∀ x ∈ f2 i, x.oneCell' = true))
  (hs : (sv = .slice none 0 0 /\ len = 0 /\ sb = none) \/ ∃ b cap cs t0, sv = .slice (some ⟨b, 0, none⟩) len cap /\ sb = some b /\ w.heap[b]? = some (.cells cs t0 (0, 0)) /\ cs.size = cap * ti.size /\ len <= cap /\ cap <= maxLen /\
   ∀ i, i < len -> ∀ j, j < ti.size -> cs[i * ti.size + j]? = (f i)[j]?)
  (hx : (xv = .slice none 0 0 /\ len2 = 0) \/ ∃ ad c, xv = .slice (some ad) len2 c /\ ∀ i, i < len2 -> ∀ j, j < ti.size -> w.cell? (ad.add (i * ti.size + j)) = (f2 i)[j]?)
  (hb : (len + len2) * ti.bytes <= 140737488355328)
  (u : Heap) (gd : GM G (u ++ h) D ρ φ w) (hsb : ∀ b, sb = some b -> (∀ k e, hget (u ++ h) k = some e -> b ∉ φ k) /\ (G.F0 b \/ G.w0.heap.size <= b))
  (F : Nat -> List Value) (hF : ∀ j, j < len + len2 -> (if j < len then f j else f2 (j - len)) = F j)
  (hK : K (.o (.l (.s n ti.size 0 (len + len2) 0))) ((n, some (.ar ti.size (len + len2) F)) :: u) (n + 1)) : Runs G o a h D n ρ w K := by
 obtain rfl : args = #[S, X] := by apply Array.ext'; simpa using hargs
 obtain rfl : ats = #[t, t] := by apply Array.ext'; simpa using hats
 obtain ⟨l, Fo, w', hrun, hl1, hl2, hE, hO⟩ := ZL7 (P := G.P) w (ρ := ρ) (D := D) t o.type e ti zv ht hti hz1 hz2 sv xv len len2 f f2 sb hf hg hs hx hb hb0 hsz0
 let ρ' : Env := fun k => if k = n then l else ρ k
 have hρ : ∀ k, D k -> ρ' k = ρ k := fun k hk => by
  have : k ≠ n := fun e => hn (e ▸ hk)
  simp [ρ', this]
 have hρn : ρ' n = l := by simp [ρ']
 refine ⟨.o (.l (.s n ti.size 0 (len + len2) 0)), _, n + 1, ρ', fun k => if k = n then Fo else φ k, w', hK, Nat.le_succ _, Nat.le_refl _, hρ, ?_, ⟨.inr ⟨Nat.le_refl _, Nat.lt_succ_self _⟩, fun hf' => hl1 (by rw [<- hρn]; exact hf'), fun hf' => ⟨by rw [hρn] at hf' ⊢; simpa using hl2 hf', .inl (dof0 _ _), Nat.le_refl _⟩⟩, .inl ?_⟩
 ·have hcold : ∀ b, b < w.heap.size -> some b ≠ sb -> w'.heap[b]? = w.heap[b]? := hO.blk
  refine gd.put n (.ar ti.size (len + len2) F) Fo hρ (fun k hk => .inl hk) (.inr ⟨Nat.le_refl _, Nat.lt_succ_self _⟩) (fun k e' hk hne b hb' => hcold b (gd.hm.sz k e' hk b hb') fun heq => (hsb b heq.symm).1 k e' hk hb') ?_ (fun b hb' => (hO.foot b hb').1)
   (fun k e' hk hne b hb' hb'' => ?_) (fun _ b hb' => ?_) ⟨Nat.le_trans g.frm.size hO.size, fun b hb1 hb2 => ?_, hO.os.trans g.frm.os, hO.tape.trans g.frm.tape, hO.output.trans g.frm.output⟩ hO.size
  ·rw [hρn]
   exact ZF4 g hF hE
  ·rcases (hO.foot b hb'').2 with h1 | h1
   ·exact (hsb b h1.symm).1 k e' hk hb'
   ·have := gd.hm.sz k e' hk b hb'
    omega
  ·rcases (hO.foot b hb').2 with h1 | h1
   ·exact (hsb b h1.symm).2
   ·exact .inr (Nat.le_trans g.frm.size h1)
  ·rw [hcold b (Nat.lt_of_lt_of_le hb1 g.frm.size) fun heq => ?_]
   ·exact g.frm.blk b hb1 hb2
   ·rcases (hsb b heq.symm).2 with h1 | h1
    ·exact hb2 h1
    ·omega
 ·simp only [execOp, ho, resolve, invoke, builtin, Sem.run_bind, Sem.run_pure, Result.andThen_ok, List.map_toArray, List.map_cons, List.map_nil, hS, hX, hrun, SV.at, AV.at, LV.at, hρn]
  simp
def ZD8 (l : Loc) (len : Nat) (s1 s2 : List (Nat × Nat) -> Loc0) : List (Nat × Nat) -> Loc0
 | [] => ⟨l.blk, l.off, l.cap, l.nil, l.spot, true⟩
 | y :: p => if (ZAf (y :: p)).1 < len then s1 (y :: p) else s2 ((y :: p).dropLast ++ [((ZAf (y :: p)).1 - len, (ZAf (y :: p)).2)])
omit g in
theorem ZCv {l : Loc} {len : Nat} {s1 s2 : List (Nat × Nat) -> Loc0} {p : List (Nat × Nat)} (h : p ≠ []) : ZD8 l len s1 s2 p = if (ZAf p).1 < len then s1 p else s2 (p.dropLast ++ [((ZAf p).1 - len, (ZAf p).2)]) := by
 cases p with
 | nil => exact absurd rfl h
 | cons y p => rfl
omit g in
theorem ZNH {l : Loc} {len len2 wd : Nat} {s1 s2 : List (Nat × Nat) -> Loc0} {f1 f2 : Nat -> Nat -> DV} (h1 : ZEc s1 (.sl wd len f1)) (h2 : ZEc s2 (.sl wd len2 f2)) :
  ZEc (ZD8 l len s1 s2) (.sl wd (len + len2) fun j c => if j < len then f1 j c else f2 (j - len) c) := by
 intro p i c hth
 rw [ZCv (by simp)] at hth
 by_cases hp : p = []
 ·subst hp
  simp only [ZAf, List.getLastD_cons, List.getLastD_nil, List.dropLast_singleton, List.nil_append] at hth
  refine ⟨rfl, wd, _, _, rfl, ?_⟩
  split at hth
  ·rename_i hi
   obtain ⟨_, wd', n', f', hd, h3, h4⟩ := h1 [] i c hth
   simp only [ZAv, DV.sl.injEq] at hd
   obtain ⟨rfl, rfl, rfl⟩ := hd
   exact ⟨by omega, h4⟩
  ·rename_i hi
   obtain ⟨_, wd', n', f', hd, h3, h4⟩ := h2 [] (i - len) c hth
   simp only [ZAv, DV.sl.injEq] at hd
   obtain ⟨rfl, rfl, rfl⟩ := hd
   exact ⟨by omega, h4⟩
 ·rw [ZCj hp, ZCM hp] at hth
  rw [ZCv hp, ZBK hp]
  split at hth
  ·rename_i hi
   obtain ⟨h3, wd', n', f', hd, h4⟩ := h1 p i c hth
   rw [ZBK hp] at hd
   exact ⟨by rw [if_pos hi]; exact h3, wd', n', f', by simp only [hi, if_true]; exact hd, h4⟩
  ·rename_i hi
   obtain ⟨h3, wd', n', f', hd, h4⟩ := h2 (p.dropLast ++ [((ZAf p).1 - len, (ZAf p).2)]) i c hth
   rw [ZCc] at hd
   exact ⟨by rw [if_neg hi]; exact h3, wd', n', f', by simp only [hi, if_false]; exact hd, h4⟩
def ZSk : List (Nat × Nat) -> Loc0 := fun _ => ⟨0, 0, 0, true, none, false⟩
theorem ZQV (hn : ¬ D n) {S X : Operand} {t e : TypeId} {ti : TypeInfo} {zv : Value} {args : Array Operand} {ats : Array TypeId} (ho : o.op = .call { callee := .builtin .append, args := args, argTypes := ats }) (hargs : args.toList = [S, X]) (hats : ats.toList = [t, t])
  (ht : G.P.underlying t = some (.slice e)) (hti : G.P.info? e = some ti) (hz1 : ti.zero = some zv) (hz2 : zv.cells.size = ti.size) (hb0 : ti.bytes ≠ 0) (hsz0 : ti.size ≠ 0)
  (sv xv : Value) (len len2 : Nat) (s1 s2 : List (Nat × Nat) -> Loc0) (f1 f2 : Nat -> Nat -> DV) (sb : Option Nat) (hS : a.eval S = sv) (hX : a.eval X = xv)
  (hf : ∀ i, i < len -> ∀ x ∈ ZBA s1 ti.size f1 i, x.oneCell' = true) (hg : ∀ i, i < len2 -> ∀ x ∈ ZBA s2 ti.size f2 i, x.oneCell' = true)
  (hs : (sv = .slice none 0 0 /\ len = 0 /\ sb = none) \/ ∃ b cap cs t0, sv = .slice (some ⟨b, 0, none⟩) len cap /\ sb = some b /\ w.heap[b]? = some (.cells cs t0 (0, 0)) /\ cs.size = cap * ti.size /\ len <= cap /\ cap <= maxLen /\
   ∀ i, i < len -> ∀ j, j < ti.size -> cs[i * ti.size + j]? = (ZBA s1 ti.size f1 i)[j]?)
  (hx : (xv = .slice none 0 0 /\ len2 = 0) \/ ∃ ad c, xv = .slice (some ad) len2 c /\ ∀ i, i < len2 -> ∀ j, j < ti.size -> w.cell? (ad.add (i * ti.size + j)) = (ZBA s2 ti.size f2 i)[j]?)
  (hb : (len + len2) * ti.bytes <= 140737488355328)
  (u : Heap) (gd : GM G (u ++ h) D ρ φ w) (hsb : ∀ b, sb = some b -> (∀ k e, hget (u ++ h) k = some e -> b ∉ φ k) /\ (G.F0 b \/ G.w0.heap.size <= b))
  (Fc : List Nat) (hFc : ∀ b ∈ Fc, b < w.heap.size /\ (∀ k e, hget (u ++ h) k = some e -> b ∉ φ k) /\ (G.F0 b \/ G.w0.heap.size <= b) /\ some b ≠ sb)
  (hv1 : ZEc s1 (.sl ti.size len f1)) (hv2 : ZEc s2 (.sl ti.size len2 f2)) (hn1 : ∀ p, p ≠ [] -> ZDv s1 (.sl ti.size len f1) [] Fc w p) (hn2 : ∀ p, p ≠ [] -> ZDv s2 (.sl ti.size len2 f2) [] Fc w p)
  (ht1 : ∀ i, i < len -> ∀ c, c < ti.size -> ∀ wd2 n2 g2, f1 i c = .sl wd2 n2 g2 -> (s1 [(i, c)]).there = true) (ht2 : ∀ i, i < len2 -> ∀ c, c < ti.size -> ∀ wd2 n2 g2, f2 i c = .sl wd2 n2 g2 -> (s2 [(i, c)]).there = true)
  (hK : K (.o (.l (.fs n [] ti.size 0 (len + len2) 0))) ((n, some (.dp true (.sl ti.size (len + len2) fun j c => if j < len then f1 j c else f2 (j - len) c))) :: u) (n + 1)) : Runs G o a h D n ρ w K := by
 obtain rfl : args = #[S, X] := by apply Array.ext'; simpa using hargs
 obtain rfl : ats = #[t, t] := by apply Array.ext'; simpa using hats
 have hlen : ∀ s f i, (ZBA s ti.size f i).length = ti.size := fun s f i => by simp [ZBA]
 obtain ⟨l, Fo, w', hrun, hl1, hl2, hE, hO⟩ := ZL7 (P := G.P) w (ρ := ρ) (D := D) t o.type e ti zv ht hti hz1 hz2 sv xv len len2 (ZBA s1 ti.size f1) (ZBA s2 ti.size f2) sb (fun i hi => ⟨hlen _ _ _, hf i hi⟩) (fun i hi => ⟨hlen _ _ _, hg i hi⟩) hs hx hb hb0 hsz0
 let L : Loc := { blk := l.blk, off := l.off, cap := l.cap, nil := l.nil, spot := l.spot, sub := ZD8 l len s1 s2 }
 let ρ' : Env := fun k => if k = n then L else ρ k
 have hρ : ∀ k, D k -> ρ' k = ρ k := fun k hk => by
  have : k ≠ n := fun e => hn (e ▸ hk)
  simp [ρ', this]
 have hρn : ρ' n = L := by simp [ρ']
 have hcold : ∀ b, b < w.heap.size -> some b ≠ sb -> w'.heap[b]? = w.heap[b]? := hO.blk
 have hraw : ∀ i, i < len + len2 -> (if i < len then ZBA s1 ti.size f1 i else ZBA s2 ti.size f2 (i - len)) = ZBA L.sub ti.size (fun j c => if j < len then f1 j c else f2 (j - len) c) i := fun i hi => by
  by_cases h0 : i < len
  ·simp only [h0, if_true, ZBA]
   apply List.map_congr_left
   intro c _
   cases f1 i c with
   | v x => rfl
   | sl a b e => simp [ZCb, L, ZD8, ZAf, h0]
  ·simp only [h0, if_false, ZBA]
   apply List.map_congr_left
   intro c _
   cases f2 (i - len) c with
   | v x => rfl
   | sl a b e => simp [ZCb, L, ZD8, ZAf, h0]
 have har : ArAt ti.size (len + len2) (ZBA L.sub ti.size (fun j c => if j < len then f1 j c else f2 (j - len) c)) (L.sub []).loc Fo w' := ZF4 g (ρ := ρ) (D' := D) hraw hE
 have hfc : ∀ b ∈ Fc, w'.heap[b]? = w.heap[b]? := fun b hb' => hcold b (hFc b hb').1 (hFc b hb').2.2.2
 have hdp : DpAt true (.sl ti.size (len + len2) fun j c => if j < len then f1 j c else f2 (j - len) c) L (Fo ++ Fc) w' := by
  refine ⟨rfl, _, _, _, Fo, Fc, rfl, rfl, fun _ => ⟨fun b hb' hc => ?_, har⟩, ?_, ZNH hv1 hv2⟩
  ·rcases (hO.foot b hb').2 with h1 | h1
   ·exact (hFc b hc).2.2.2 h1
   ·have := (hFc b hc).1; omega
  ·refine ZHm _ rfl har (fun i hi c hc wd2 n2 g2 he => ?_) (fun p hp hth => ?_)
   ·show (ZD8 l len s1 s2 [(i, c)]).there = true
    rw [ZCv (by simp)]
    by_cases h0 : i < len
    ·simp only [ZAf, List.getLastD_cons, List.getLastD_nil, h0, if_true] at he ⊢
     exact ht1 i h0 c hc _ _ _ he
    ·simp only [ZAf, List.getLastD_cons, List.getLastD_nil, h0, if_false] at he ⊢
     exact ht2 (i - len) (by omega) c hc _ _ _ he
   ·by_cases h0 : (ZAf p).1 < len
    ·refine ⟨s1, .sl ti.size len f1, [], Fc, p, (hn1 p hp).mono (fun e => absurd e hp) hfc, ?_, ?_, fun x => ?_, fun b hb' => ?_⟩
     ·rw [ZBK hp, ZBK hp]; simp only [h0, if_true]
     ·show ZD8 l len s1 s2 p = s1 p
      rw [ZCv hp, if_pos h0]
     ·show ZD8 l len s1 s2 (x :: p) = s1 (x :: p)
      rw [ZCv (by simp), ZCj hp, if_pos h0]
     ·cases p with
      | nil => exact absurd rfl hp
      | cons y p => exact hb'
    ·have hp' : p.dropLast ++ [((ZAf p).1 - len, (ZAf p).2)] ≠ [] := by simp
     refine ⟨s2, .sl ti.size len2 f2, [], Fc, p.dropLast ++ [((ZAf p).1 - len, (ZAf p).2)], (hn2 _ hp').mono (fun e => absurd e hp') hfc, ?_, ?_, fun x => ?_, fun b hb' => ?_⟩
     ·rw [ZBK hp, ZCc]; simp only [h0, if_false]
     ·show ZD8 l len s1 s2 p = _
      rw [ZCv hp, if_neg h0]
     ·show ZD8 l len s1 s2 (x :: p) = _
      rw [ZCv (by simp), ZCj hp, if_neg h0, ZCM hp]
      rfl
     ·cases hq : p.dropLast ++ [((ZAf p).1 - len, (ZAf p).2)] with
      | nil => exact absurd hq hp'
      | cons y q => rw [hq] at hb'; exact hb'
 refine ⟨.o (.l (.fs n [] ti.size 0 (len + len2) 0)), _, n + 1, ρ', fun k => if k = n then Fo ++ Fc else φ k, w', hK, Nat.le_succ _, Nat.le_refl _, hρ, ?_,
  ⟨⟨.inr ⟨Nat.le_refl _, Nat.lt_succ_self _⟩, by rw [hρn]; rfl⟩, fun hf' => hl1 (by rw [hρn] at hf'; exact hf'), fun hf' => ⟨by rw [hρn] at hf' ⊢; have := hl2 hf'; show 0 + (len + len2) <= l.cap; omega, .inl (dof0 _ _), Nat.le_refl _⟩⟩, .inl ?_⟩
 ·refine gd.put n (.dp true _) (Fo ++ Fc) hρ (fun k hk => .inl hk) (.inr ⟨Nat.le_refl _, Nat.lt_succ_self _⟩) (fun k e' hk hne b hb' => hcold b (gd.hm.sz k e' hk b hb') fun heq => (hsb b heq.symm).1 k e' hk hb') ?_ (fun b hb' => ?_)
   (fun k e' hk hne b hb' hb'' => ?_) (fun _ b hb' => ?_) ⟨Nat.le_trans g.frm.size hO.size, fun b hb1 hb2 => ?_, hO.os.trans g.frm.os, hO.tape.trans g.frm.tape, hO.output.trans g.frm.output⟩ hO.size
  ·rw [hρn]; exact hdp
  ·rcases List.mem_append.1 hb' with hb' | hb'
   ·exact (hO.foot b hb').1
   ·exact Nat.lt_of_lt_of_le (hFc b hb').1 hO.size
  ·rcases List.mem_append.1 hb'' with hb'' | hb''
   ·rcases (hO.foot b hb'').2 with h1 | h1
    ·exact (hsb b h1.symm).1 k e' hk hb'
    ·have := gd.hm.sz k e' hk b hb'
     omega
   ·exact (hFc b hb'').2.1 k e' hk hb'
  ·rcases List.mem_append.1 hb' with hb' | hb'
   ·rcases (hO.foot b hb').2 with h1 | h1
    ·exact (hsb b h1.symm).2
    ·exact .inr (Nat.le_trans g.frm.size h1)
   ·exact (hFc b hb').2.2.1
  ·rw [hcold b (Nat.lt_of_lt_of_le hb1 g.frm.size) fun heq => ?_]
   ·exact g.frm.blk b hb1 hb2
   ·rcases (hsb b heq.symm).2 with h1 | h1
    ·exact hb2 h1
    ·omega
 ·simp only [execOp, ho, resolve, invoke, builtin, Sem.run_bind, Sem.run_pure, Result.andThen_ok, List.map_toArray, List.map_cons, List.map_nil, hS, hX, hrun, SV.at, AV.at, LV.at, hρn]
  simp [L, ZD8, Loc0.loc, adr]
omit g in
theorem ZDv.weaken {s : List (Nat × Nat) -> Loc0} {d : DV} {Fr Fc Fc' : List Nat} {w : World} {p : List (Nat × Nat)} (hp : p ≠ []) (hF : ∀ b ∈ Fc, b ∈ Fc') (h : ZDv s d Fr Fc w p) : ZDv s d [] Fc' w p := by
 intro wd n f ht hd
 obtain ⟨h1, h2, h3⟩ := h wd n f ht hd
 refine ⟨h1, h2, fun i hi => ?_⟩
 obtain ⟨h4, h5, h6⟩ := h3 i hi
 refine ⟨h4, ?_, h6⟩
 cases p with
 | nil => exact absurd rfl hp
 | cons x p => exact hF _ h5
theorem ZFS {k wd m : Nat} {f : Nat -> Nat -> DV} (hk : hget h k = some (.dp true (.sl wd m f))) : ∃ Fr Fc, φ k = Fr ++ Fc /\ (∀ b ∈ Fr, b ∉ Fc) /\ ArAt wd m (ZBA (ρ k).sub wd f) ((ρ k).sub []).loc Fr w /\ ZLN (ρ k).sub (.sl wd m f) Fr Fc w /\ ((ρ k).sub []).there = true /\ ZEc (ρ k).sub (.sl wd m f) := by
 obtain ⟨h0, wd0, n0, f0, Fr, Fc, hd, hF, ho, hN⟩ := g.hm.at_ k _ hk
 cases hd
 exact ⟨Fr, Fc, hF, (ho rfl).1, (ho rfl).2, hN.1, h0, hN.2⟩
omit g in
theorem ArAt.one {wd m : Nat} {f : Nat -> List Value} {l : Loc} {F : List Nat} {w : World} (h : ArAt wd m f l F w) : ∀ i, i < m -> ∀ x ∈ f i, x.oneCell' = true := by
 rcases h with ⟨_, h0, _⟩ | ⟨h1, h2, h3, h4, h5, cs, t0, h6, h7, h8⟩
 ·intro i hi; omega
 ·exact fun i hi => (h8 i hi).2.1
theorem ZL8 {k wd m d : Nat} {f : Nat -> Nat -> DV} (hk : hget h k = some (.dp true (.sl wd m f))) (hok : (LV.fs k [] wd 0 m d).ok ρ D) :
  ((LV.fs k [] wd 0 m d).at ρ = .slice none 0 0 /\ m = 0) \/ ∃ ad c, (LV.fs k [] wd 0 m d).at ρ = .slice (some ad) m c /\ ∀ i, i < m -> ∀ j, j < wd -> w.cell? (ad.add (i * wd + j)) = (ZBA (ρ k).sub wd f i)[j]? := by
 obtain ⟨Fr, Fc, hF, hdis, har, hN, h0, _⟩ := ZFS g hk
 rcases har with ⟨h1, h2, _⟩ | ⟨h1, h2, h3, h4, h5, cs, t0, h6, h7, h8⟩
 ·exact .inl ⟨by simp [LV.at, h1], h2⟩
 ·refine .inr ⟨adr ((ρ k).sub []).loc 0, ((ρ k).sub []).loc.cap, by simp [LV.at, h1], fun i hi j hj => ?_⟩
  rw [ZCB, Nat.zero_add, <- (h8 i hi).2.2 j hj]
  simp [World.cell?, adr, h6, h2]
include hr
theorem ZRZ (hn : ¬ D n) {S X : Operand} {s x : O} {t e : TypeId} {ti : TypeInfo} {z : List Value} {args : Array Operand} {ats : Array TypeId} (ho : o.op = .call { callee := .builtin .append, args := args, argTypes := ats }) (hargs : args.toList = [S, X]) (hats : ats.toList = [t, t])
  (hs : cO S = some s) (hx : cO X = some x) (ht : G.P.underlying t = some (.slice e)) (hti : G.P.info? e = some ti) (hz : ZB0 G.P e = some z) (hb0 : ti.bytes ≠ 0) (hsz0 : ti.size ≠ 0)
  (he : evI (fun _ _ _ _ _ => False) (fun _ _ _ _ _ _ => False) (fun _ _ _ _ _ => False) (.app ti.size ti.bytes s x) r h n K) : Runs G o a h D n ρ w K := by
 obtain ⟨ti', zv, hi', hz1, hz2, hz3⟩ := ZBJ hz
 have : ti' = ti := by rw [hti] at hi'; cases hi'; rfl
 subst this
 have main : ∀ (k wd' len d k2 wd2 row2 len2 d2 m : Nat) (f f2 : Nat -> List Value) (e2 : Ent), oget r s = some (.l (.s k wd' 0 len d)) -> oget r x = some (.l (.s k2 wd2 row2 len2 d2)) -> wd' = ti'.size -> wd2 = ti'.size -> k ≠ k2 ->
   hget h k = some (.ar ti'.size len f) -> hget h k2 = some e2 -> (e2 = .ar ti'.size m f2 \/ e2 = .ro ti'.size m f2) -> row2 + len2 <= m -> (len + len2) * ti'.bytes <= 140737488355328 ->
   K (.o (.l (.s n ti'.size 0 (len + len2) 0))) [(n, some (.ar ti'.size (len + len2) fun j => if j < len then f j else f2 (nadd row2 (j - len)))), (k, none)] (n + 1) -> Runs G o a h D n ρ w K := by
  intro k wd' len d k2 wd2 row2 len2 d2 m f f2 e2 hv1 hv2 e1 e1' hne hk hk2 he2 hm hb hK
  subst e1 e1'
  obtain ⟨hS, hSok⟩ := ZAF hr hs hv1
  obtain ⟨hX, hXok⟩ := ZAF hr hx hv2
  obtain ⟨hxf, hg2⟩ := ZJ7 g hk2 he2 hXok hm
  have hE := g.hm.at_ k _ hk
  have hgd : GM G ([(k, none)] ++ h) D ρ φ w := g.drop k
  refine ZLP g hn ho hargs hats ht hti hz1 hz2 hb0 hsz0 _ _ len len2 f (fun j => f2 (nadd row2 j)) (if (ρ k).nil then none else some (ρ k).blk) hS hX ?_ hg2 ?_ hxf hb [(k, none)] hgd ?_ _ (fun j hj => rfl) hK
  ·intro i hi
   rcases hE with ⟨_, h0, _⟩ | ⟨h1, h2, h3, h4, h5, cs, t0, h6, h7, h8⟩
   ·omega
   ·exact ⟨(h8 i hi).1, (h8 i hi).2.1⟩
  ·rcases hE with ⟨h1, h0, _⟩ | ⟨h1, h2, h3, h4, h5, cs, t0, h6, h7, h8⟩
   ·exact .inl ⟨by simp [AV.at, LV.at, h1], h0, by simp [h1]⟩
   ·refine .inr ⟨(ρ k).blk, (ρ k).cap, cs, t0, by simp [AV.at, LV.at, h1, adr, h2], by simp [h1], h6, h7, h4, h5, fun i hi j hj => (h8 i hi).2.2 j hj⟩
  ·intro b hb'
   rcases hE with ⟨h1, h0, _⟩ | ⟨h1, h2, h3, h4, h5, cs, t0, h6, h7, h8⟩
   ·simp [h1] at hb'
   ·simp [h1] at hb'
    have hbm : b ∈ φ k := by rw [h3, hb']; simp
    refine ⟨fun k' e' hk' hbk' => ?_, g.ow k _ hk rfl b hbm⟩
    have hk'' : hget ((k, none) :: h) k' = some e' := hk'
    rw [ZAJ] at hk''
    split at hk''
    ·cases hk''
    ·rename_i hkk
     exact g.hm.dj k k' _ e' hk hk'' hkk rfl b hbm hbk'
 have main0 : ∀ (k2 wd2 row2 len2 d2 m : Nat) (f2 : Nat -> List Value) (e2 : Ent), oget r s = some (.l (.v (.slice none 0 0))) -> oget r x = some (.l (.s k2 wd2 row2 len2 d2)) -> wd2 = ti'.size ->
   hget h k2 = some e2 -> (e2 = .ar ti'.size m f2 \/ e2 = .ro ti'.size m f2) -> row2 + len2 <= m -> len2 * ti'.bytes <= 140737488355328 ->
   K (.o (.l (.s n ti'.size 0 len2 0))) [(n, some (.ar ti'.size len2 fun j => f2 (nadd row2 j)))] (n + 1) -> Runs G o a h D n ρ w K := by
  intro k2 wd2 row2 len2 d2 m f2 e2 hv1 hv2 e1' hk2 he2 hm hb hK
  subst e1'
  obtain ⟨hS, hSok⟩ := ZAF hr hs hv1
  obtain ⟨hX, hXok⟩ := ZAF hr hx hv2
  obtain ⟨hxf, hg2⟩ := ZJ7 g hk2 he2 hXok hm
  refine ZLP g hn ho hargs hats ht hti hz1 hz2 hb0 hsz0 _ _ 0 len2 (fun _ => []) (fun j => f2 (nadd row2 j)) none hS hX (fun i hi => by omega) hg2 (.inl ⟨rfl, rfl, rfl⟩) hxf (by rw [Nat.zero_add]; exact hb) [] g (fun b hb' => by cases hb') (fun j => f2 (nadd row2 j)) (fun j hj => by simp) ?_
  rw [Nat.zero_add]; exact hK
 simp only [evI] at he
 split at he
 ·rename_i k wd' row len d k2 wd2 row2 len2 d2 hv1 hv2
  split at he
  ·rename_i hw1 hw2 hkk
   have hw1 := Nat.eq_of_beq_eq_true hw1
   have hw2 := Nat.eq_of_beq_eq_true hw2
   have hne : k ≠ k2 := by intro e; subst e; simp at hkk
   split at he
   ·rename_i wa nn f wb m f2 hk hk2
    split at he
    ·rename_i hwa hwb
     obtain rfl := Nat.eq_of_beq_eq_true hwa
     obtain rfl := Nat.eq_of_beq_eq_true hwb
     obtain ⟨⟨rfl, q1, q2⟩, he⟩ := he
     exact main k wd' _ d k2 wd2 row2 len2 d2 m f f2 _ hv1 hv2 hw1 hw2 hne hk hk2 (.inl rfl) q1 q2 he
    ·exact he.elim
   ·rename_i wa nn f wb m f2 hk hk2
    split at he
    ·rename_i hwa hwb
     obtain rfl := Nat.eq_of_beq_eq_true hwa
     obtain rfl := Nat.eq_of_beq_eq_true hwb
     obtain ⟨⟨rfl, q1, q2⟩, he⟩ := he
     exact main k wd' _ d k2 wd2 row2 len2 d2 m f f2 _ hv1 hv2 hw1 hw2 hne hk hk2 (.inr rfl) q1 q2 he
    ·exact he.elim
   ·exact he.elim
  ·exact he.elim
 ·rename_i k2 wd2 row2 len2 d2 hv1 hv2
  split at he
  ·rename_i hw2
   have hw2 := Nat.eq_of_beq_eq_true hw2
   split at he
   ·rename_i wb m f2 hk2
    split at he
    ·rename_i hwb
     obtain rfl := Nat.eq_of_beq_eq_true hwb
     exact main0 k2 wd2 row2 len2 d2 m f2 _ hv1 hv2 hw2 hk2 (.inl rfl) he.1.1 he.1.2 he.2
    ·exact he.elim
   ·rename_i wb m f2 hk2
    split at he
    ·rename_i hwb
     obtain rfl := Nat.eq_of_beq_eq_true hwb
     exact main0 k2 wd2 row2 len2 d2 m f2 _ hv1 hv2 hw2 hk2 (.inr rfl) he.1.1 he.1.2 he.2
    ·exact he.elim
   ·exact he.elim
  ·exact he.elim
 ·unfold appX at he
  split at he
  ·rename_i k2 wd2 len2 d2 hv2
   split at he
   ·rename_i wb m f2 hk2
    split at he
    ·rename_i hw1 hw2
     have hw1 := Nat.eq_of_beq_eq_true hw1
     have hw2 := Nat.eq_of_beq_eq_true hw2
     subst hw1 hw2
     obtain ⟨hX, hXok⟩ := ZAF hr hx hv2
     obtain ⟨Fr2, Fc2, hF2, hdis2, har2, hN2, hth2, hV2⟩ := ZFS g hk2
     have own2 : ∀ b ∈ φ k2, (G.F0 b \/ G.w0.heap.size <= b) /\ b < w.heap.size /\ ∀ k' e', hget h k' = some e' -> k2 ≠ k' -> b ∉ φ k' := fun b hb => ⟨g.ow k2 _ hk2 rfl b hb, g.hm.sz k2 _ hk2 b hb, fun k' e' hk' hne => g.hm.dj k2 k' _ e' hk2 hk' hne rfl b hb⟩
     split at he
     ·rename_i k wd' len d hv1
      split at he
      ·rename_i hw3 hne
       have hw3 := Nat.eq_of_beq_eq_true hw3
       subst hw3
       have hne : k ≠ k2 := fun e => by subst e; simp at hne
       split at he
       ·rename_i wa n1 f hk
        split at he
        ·rename_i hw4
         have hw4 := Nat.eq_of_beq_eq_true hw4
         subst hw4
         obtain ⟨⟨rfl, rfl, hb⟩, he⟩ := he
         obtain ⟨hS, hSok⟩ := ZAF hr hs hv1
         obtain ⟨Fr1, Fc1, hF1, hdis1, har1, hN1, hth1, hV1⟩ := ZFS g hk
         have own1 : ∀ b ∈ φ k, (G.F0 b \/ G.w0.heap.size <= b) /\ b < w.heap.size /\ ∀ k' e', hget h k' = some e' -> k ≠ k' -> b ∉ φ k' := fun b hb => ⟨g.ow k _ hk rfl b hb, g.hm.sz k _ hk b hb, fun k' e' hk' hne => g.hm.dj k k' _ e' hk hk' hne rfl b hb⟩
         have hgd : GM G ([(k, none), (k2, none)] ++ h) D ρ φ w := (g.drop k2).drop k
         have old : ∀ k' e', hget ([(k, none), (k2, none)] ++ h) k' = some e' -> hget h k' = some e' /\ k ≠ k' /\ k2 ≠ k' := fun k' e' hk' => by
          have hk' : hget ((k, none) :: (k2, none) :: h) k' = some e' := hk'
          rw [ZAJ, ZAJ] at hk'
          split at hk'
          ·cases hk'
          ·split at hk'
           ·cases hk'
           ·exact ⟨hk', by assumption, by assumption⟩
         refine ZQV g hn ho hargs hats ht hti hz1 hz2 hb0 hsz0 _ _ len len2 (ρ k).sub (ρ k2).sub f f2 (if ((ρ k).sub []).loc.nil then none else some ((ρ k).sub []).loc.blk) hS hX har1.one har2.one ?_ (ZL8 g hk2 hXok) hb [(k, none), (k2, none)] hgd ?_ (Fc1 ++ Fc2) ?_ hV1 hV2
          (fun p hp => (hN1 p).weaken hp (fun b hb => by simp [hb])) (fun p hp => (hN2 p).weaken hp (fun b hb => by simp [hb])) ?_ ?_ he
         ·rcases har1 with ⟨h1, h0, _⟩ | ⟨h1, h2, h3, h4, h5, cs, t0, h6, h7, h8⟩
          ·exact .inl ⟨by simp [AV.at, LV.at, h1], h0, by simp [h1]⟩
          ·exact .inr ⟨((ρ k).sub []).loc.blk, ((ρ k).sub []).loc.cap, cs, t0, by simp [AV.at, LV.at, h1, adr, h2], by simp [h1], h6, h7, h4, h5, fun i hi j hj => (h8 i hi).2.2 j hj⟩
         ·intro b hb'
          rcases har1 with ⟨h1, h0, _⟩ | ⟨h1, h2, h3, h4, h5, cs, t0, h6, h7, h8⟩
          ·simp [h1] at hb'
          ·simp [h1] at hb'
           have hbm : b ∈ φ k := by rw [hF1, h3, hb']; simp
           exact ⟨fun k' e' hk' => (own1 b hbm).2.2 k' e' (old k' e' hk').1 (old k' e' hk').2.1, (own1 b hbm).1⟩
         ·intro b hb'
          have hsbne : ∀ b', some b' = (if ((ρ k).sub []).loc.nil then none else some ((ρ k).sub []).loc.blk) -> b' ∈ Fr1 := fun b' e => by
           rcases har1 with ⟨h1, h0, _⟩ | ⟨h1, h2, h3, _⟩
           ·simp [h1] at e
           ·simp [h1] at e; rw [h3, e]; simp
          rcases List.mem_append.1 hb' with h1 | h1
          ·have hbm : b ∈ φ k := by rw [hF1]; simp [h1]
           exact ⟨(own1 b hbm).2.1, fun k' e' hk' => (own1 b hbm).2.2 k' e' (old k' e' hk').1 (old k' e' hk').2.1, (own1 b hbm).1, fun e => hdis1 b (hsbne b e) h1⟩
          ·have hbm : b ∈ φ k2 := by rw [hF2]; simp [h1]
           exact ⟨(own2 b hbm).2.1, fun k' e' hk' => (own2 b hbm).2.2 k' e' (old k' e' hk').1 (old k' e' hk').2.2, (own2 b hbm).1, fun e => (own2 b hbm).2.2 k _ hk (Ne.symm hne) (by rw [hF1]; simp [hsbne b e])⟩
         ·intro i hi c hc wd2 n2 g2 hfe
          obtain ⟨_, _, h3⟩ := hN1 [] _ _ _ hth1 rfl
          exact ((h3 i hi).2.2 c hc).2.2 _ _ _ hfe
         ·intro i hi c hc wd2 n2 g2 hfe
          obtain ⟨_, _, h3⟩ := hN2 [] _ _ _ hth2 rfl
          exact ((h3 i hi).2.2 c hc).2.2 _ _ _ hfe
        ·exact he.elim
       ·exact he.elim
      ·exact he.elim
     ·rename_i hv1
      obtain ⟨⟨rfl, hb⟩, he⟩ := he
      obtain ⟨hS, hSok⟩ := ZAF hr hs hv1
      have hgd : GM G ([(k2, none)] ++ h) D ρ φ w := g.drop k2
      have old : ∀ k' e', hget ([(k2, none)] ++ h) k' = some e' -> hget h k' = some e' /\ k2 ≠ k' := fun k' e' hk' => by
       have hk' : hget ((k2, none) :: h) k' = some e' := hk'
       rw [ZAJ] at hk'
       split at hk'
       ·cases hk'
       ·exact ⟨hk', by assumption⟩
      refine ZQV g hn ho hargs hats ht hti hz1 hz2 hb0 hsz0 _ _ 0 len2 ZSk (ρ k2).sub f2 f2 none hS hX (fun i hi => absurd hi (Nat.not_lt_zero _)) har2.one (.inl ⟨rfl, rfl, rfl⟩) (ZL8 g hk2 hXok) (by rw [Nat.zero_add]; exact hb) [(k2, none)] hgd (fun b hb' => by cases hb') Fc2 ?_ (fun p i c hh => by cases hh) hV2
       (fun p hp => ?_) (fun p hp => (hN2 p).weaken hp (fun b hb => hb)) (fun i hi => absurd hi (Nat.not_lt_zero _)) ?_ ?_
      ·intro b h1
       have hbm : b ∈ φ k2 := by rw [hF2]; simp [h1]
       exact ⟨(own2 b hbm).2.1, fun k' e' hk' => (own2 b hbm).2.2 k' e' (old k' e' hk').1 (old k' e' hk').2, (own2 b hbm).1, fun e => by cases e⟩
      ·intro wd3 n3 f3 hh1 hh2; cases hh1
      ·intro i hi c hc wd2 n2 g2 hfe
       obtain ⟨_, _, h3⟩ := hN2 [] _ _ _ hth2 rfl
       exact ((h3 i hi).2.2 c hc).2.2 _ _ _ hfe
      ·rw [Nat.zero_add]
       simpa using he
     ·exact he.elim
    ·exact he.elim
   ·exact he.elim
  ·rename_i k2 q wd2 row2 len2 d2 hneq hv2
   unfold appF at he
   split at he
   ·rename_i oo dd hk2
    split at he
    ·rename_i wb m g0 hq
     split at he
     ·rename_i hw1 hw2
      have hw1 := Nat.eq_of_beq_eq_true hw1
      have hw2 := Nat.eq_of_beq_eq_true hw2
      subst hw1 hw2
      split at he
      ·rename_i k wd' len d hv1
       split at he
       ·rename_i wa n1 f hk
        split at he
        ·rename_i hw3 hw4
         have hw3 := Nat.eq_of_beq_eq_true hw3
         have hw4 := Nat.eq_of_beq_eq_true hw4
         subst hw3 hw4
         obtain ⟨⟨rfl, hm, hb, hfl⟩, he⟩ := he
         obtain ⟨hS, hSok⟩ := ZAF hr hs hv1
         obtain ⟨hX, hXok⟩ := ZAF hr hx hv2
         obtain ⟨_, wd0, n0, f0, Fr, Fc, hd0, hF, _, hN, _⟩ := g.hm.at_ k2 _ hk2
         obtain ⟨⟨hD2, hth⟩, hx1, hx2⟩ := hXok
         obtain ⟨hN1, hN2, hN3⟩ := hN q _ m g0 hth hq
         have hE : ArAt ti'.size len f (ρ k) (φ k) w := g.hm.at_ k _ hk
         have hgd : GM G ([(k, none)] ++ h) D ρ φ w := g.drop k
         have cell : ∀ i, i < len2 -> ∀ c, c < ti'.size -> ∃ v, (ZFn ti'.size g0 (row2 + i))[c]? = some v /\ v.oneCell' = true /\ w.cell? (adr ((ρ k2).sub q).loc ((row2 + i) * ti'.size + c)) = some v := fun i hi c hc => by
          obtain ⟨v, hv⟩ := hfl i hi c hc
          obtain ⟨_, _, k3⟩ := hN3 (row2 + i) (by omega)
          obtain ⟨k4, k5, _⟩ := k3 c hc
          rw [hv] at k4 k5
          exact ⟨v, by simp [ZFn, hc, hv], k5, k4⟩
         have hlenr : ∀ i, (ZFn ti'.size g0 i).length = ti'.size := fun i => by simp [ZFn]
         refine ZLP g hn ho hargs hats ht hti hz1 hz2 hb0 hsz0 _ _ len len2 f (fun j => ZFn ti'.size g0 (row2 + j)) (if (ρ k).nil then none else some (ρ k).blk) hS hX ?_ (fun i hi => ⟨hlenr _, fun v hv => ?_⟩) ?_ ?_ hb [(k, none)] hgd ?_ _ (fun j hj => rfl) he
         ·intro i hi
          rcases hE with ⟨_, h0, _⟩ | ⟨h1, h2, h3, h4, h5, cs, t0, h6, h7, h8⟩
          ·omega
          ·exact ⟨(h8 i hi).1, (h8 i hi).2.1⟩
         ·obtain ⟨c, hc⟩ := List.getElem?_of_mem hv
          have hcw : c < ti'.size := by have := (List.getElem?_eq_some_iff.1 hc).1; rw [hlenr] at this; exact this
          obtain ⟨v', e1, e2, _⟩ := cell i hi c hcw
          rw [hc] at e1; cases e1; exact e2
         ·rcases hE with ⟨h1, h0, _⟩ | ⟨h1, h2, h3, h4, h5, cs, t0, h6, h7, h8⟩
          ·exact .inl ⟨by simp [AV.at, LV.at, h1], h0, by simp [h1]⟩
          ·exact .inr ⟨(ρ k).blk, (ρ k).cap, cs, t0, by simp [AV.at, LV.at, h1, adr, h2], by simp [h1], h6, h7, h4, h5, fun i hi j hj => (h8 i hi).2.2 j hj⟩
         ·cases hnil : ((ρ k2).sub q).loc.nil with
          | true => exact .inl ⟨by simp [AV.at, LV.at, hnil], hx1 hnil⟩
          | false =>
           refine .inr ⟨adr ((ρ k2).sub q).loc ((row2 - dof ((ρ k2).sub q).loc.cap row2 d2) * ti'.size), ((ρ k2).sub q).loc.cap - row2, by simp only [AV.at, LV.at, hnil, Bool.false_eq_true, if_false], fun i hi c hc => ?_⟩
           have hd0 : dof ((ρ k2).sub q).loc.cap row2 d2 = 0 := by
            obtain ⟨_, h2, _⟩ := hx2 hnil
            rcases h2 with h2 | h2 <;> omega
           obtain ⟨v', e1, e2, e3⟩ := cell i hi c hc
           rw [ZCB, hd0, Nat.sub_zero, e1, <- e3]
           congr 2
           rw [Nat.add_mul]; omega
         ·intro b hb'
          rcases hE with ⟨h1, h0, _⟩ | ⟨h1, h2, h3, h4, h5, cs, t0, h6, h7, h8⟩
          ·simp [h1] at hb'
          ·simp [h1] at hb'
           have hbm : b ∈ φ k := by rw [h3, hb']; simp
           refine ⟨fun k' e' hk' hbk' => ?_, g.ow k _ hk rfl b hbm⟩
           have hk'' : hget ((k, none) :: h) k' = some e' := hk'
           rw [ZAJ] at hk''
           split at hk''
           ·cases hk''
           ·rename_i hkk
            exact g.hm.dj k k' _ e' hk hk'' hkk rfl b hbm hbk'
        ·exact he.elim
       ·exact he.elim
      ·exact he.elim
     ·exact he.elim
    ·exact he.elim
   ·exact he.elim
  ·exact he.elim
end
end Go.Sx
