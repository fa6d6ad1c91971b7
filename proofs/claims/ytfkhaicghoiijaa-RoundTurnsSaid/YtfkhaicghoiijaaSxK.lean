/- The symbolic walk, part K: append, rows built, structs compared. -/
import Derived.Test.YtfkhaicghoiijaaSxJ
set_option linter.unusedSimpArgs false
set_option linter.unusedVariables false
set_option linter.unusedSectionVars false
namespace Go.Sx
open Go

section
variable {G : Ctx} {o : Oper} {a : Act} {r : Regs} {h : Heap} {D : Nat → Prop} {n : Nat} {ρ : Env} {φ : Nat → List Nat} {w : World} {K : SV → Heap → Nat → Prop}
variable (g : GM G h D ρ φ w) (hr : RM r D ρ a)
include g

/-- What is read of a slice whose rows are known. -/
theorem rows_form {k wd row len d m : Nat} {f : Nat → List Value} {e : Ent} (hk : hget h k = some e) (he : e = .ar wd m f ∨ e = .ro wd m f) (hok : (LV.s k wd row len d).ok ρ D) (hm : row + len ≤ m) :
    (((LV.s k wd row len d).at ρ = .slice none 0 0 ∧ len = 0) ∨ ∃ ad c, (LV.s k wd row len d).at ρ = .slice (some ad) len c ∧ ∀ i, i < len → ∀ j, j < wd → w.cell? (ad.add (i * wd + j)) = (f (nadd row i))[j]?) ∧
      ∀ i, i < len → (f (nadd row i)).length = wd ∧ (∀ x ∈ f (nadd row i), x.oneCell' = true) := by
  obtain ⟨hD, hn1, hn2⟩ := hok
  have hE := g.hm.at_ k e hk
  have hcells : (ρ k).nil = false ∨ len = 0 := by
    cases hh : (ρ k).nil with
    | true => exact .inr (hn1 hh)
    | false => exact .inl rfl
  have hf : ∀ i, i < len → (f (nadd row i)).length = wd ∧ (∀ x ∈ f (nadd row i), x.oneCell' = true) ∧ ∀ j, j < wd → w.cell? (adr (ρ k) ((nadd row i) * wd + j)) = (f (nadd row i))[j]? := by
    intro i hi
    have hlt : nadd row i < m := by rw [nadd_eq]; omega
    rcases he with rfl | rfl
    · rcases hE with ⟨_, h0, _⟩ | ⟨h1, h2, h3, h4, h5, cs, t, h6, h7, h8⟩
      · omega
      · obtain ⟨h9, h10, h11⟩ := h8 _ hlt
        refine ⟨h9, h10, fun j hj => ?_⟩
        rw [← h11 j hj]
        simp [World.cell?, adr, h6, h2]
    · rcases hE with ⟨h0, _⟩ | ⟨h1, h3, h8⟩
      · omega
      · exact h8 _ hlt
  refine ⟨?_, fun i hi => ⟨(hf i hi).1, (hf i hi).2.1⟩⟩
  cases hh : (ρ k).nil with
  | true => exact .inl ⟨by simp [LV.at, hh], hn1 hh⟩
  | false =>
    obtain ⟨q1, q2, q3⟩ := hn2 hh
    refine .inr ⟨_, _, by simp [LV.at, hh]; exact ⟨rfl, rfl⟩, fun i hi j hj => ?_⟩
    have hd0 : d = 0 := by rcases q2 with h0 | h0 <;> omega
    subst hd0
    rw [adr_add, ← (hf i hi).2.2 j hj, nadd_eq]
    congr 2
    simp [Nat.add_mul]; omega
theorem ent_ar_congr {wd m : Nat} {f f' : Nat → List Value} {D' : Nat → Prop} {l : Loc} {F : List Nat} {w' : World} (hf : ∀ i, i < m → f i = f' i) (h : EntAt (.ar wd m f) ρ D' l F w') : EntAt (.ar wd m f') ρ D' l F w' := by
  rcases h with h | ⟨h1, h2, h3, h4, h5, cs, t, h6, h7, h8⟩
  · exact .inl h
  · exact .inr ⟨h1, h2, h3, h4, h5, cs, t, h6, h7, fun i hi => by rw [← hf i hi]; exact h8 i hi⟩
theorem ent_ar_env {wd m : Nat} {f : Nat → List Value} {D' D'' : Nat → Prop} {ρ' ρ'' : Env} {l : Loc} {F : List Nat} {w' : World} (h : EntAt (.ar wd m f) ρ' D' l F w') : EntAt (.ar wd m f) ρ'' D'' l F w' := h

/-- What append comes to, laid into the memory. -/
theorem app_put (hn : ¬ D n) {S X : Operand} {t e : TypeId} {ti : TypeInfo} {zv : Value} {args : Array Operand} {ats : Array TypeId} (ho : o.op = .call { callee := .builtin .append, args := args, argTypes := ats }) (hargs : args.toList = [S, X]) (hats : ats.toList = [t, t])
    (ht : G.P.underlying t = some (.slice e)) (hti : G.P.info? e = some ti) (hz1 : ti.zero = some zv) (hz2 : zv.cells.size = ti.size) (hb0 : ti.bytes ≠ 0) (hsz0 : ti.size ≠ 0)
    (sv xv : Value) (len len2 : Nat) (f f2 : Nat → List Value) (sb : Option Nat) (hS : a.eval S = sv) (hX : a.eval X = xv)
    (hf : ∀ i, i < len → (f i).length = ti.size ∧ (∀ x ∈ f i, x.oneCell' = true))
    (hg : ∀ i, i < len2 → (f2 i).length = ti.size ∧ (∀ x ∈ f2 i, x.oneCell' = true))
    (hs : (sv = .slice none 0 0 ∧ len = 0 ∧ sb = none) ∨ ∃ b cap cs t0, sv = .slice (some ⟨b, 0, none⟩) len cap ∧ sb = some b ∧ w.heap[b]? = some (.cells cs t0 (0, 0)) ∧ cs.size = cap * ti.size ∧ len ≤ cap ∧ cap ≤ maxLen ∧
      ∀ i, i < len → ∀ j, j < ti.size → cs[i * ti.size + j]? = (f i)[j]?)
    (hx : (xv = .slice none 0 0 ∧ len2 = 0) ∨ ∃ ad c, xv = .slice (some ad) len2 c ∧ ∀ i, i < len2 → ∀ j, j < ti.size → w.cell? (ad.add (i * ti.size + j)) = (f2 i)[j]?)
    (hb : (len + len2) * ti.bytes ≤ 140737488355328)
    (u : Heap) (gd : GM G (u ++ h) D ρ φ w) (hsb : ∀ b, sb = some b → (∀ k e, hget (u ++ h) k = some e → b ∉ φ k) ∧ (G.F0 b ∨ G.w0.heap.size ≤ b))
    (F : Nat → List Value) (hF : ∀ j, j < len + len2 → (if j < len then f j else f2 (j - len)) = F j)
    (hK : K (.o (.l (.s n ti.size 0 (len + len2) 0))) ((n, some (.ar ti.size (len + len2) F)) :: u) (n + 1)) : Runs G o a h D n ρ w K := by
  obtain rfl : args = #[S, X] := by apply Array.ext'; simpa using hargs
  obtain rfl : ats = #[t, t] := by apply Array.ext'; simpa using hats
  obtain ⟨l, Fo, w', hrun, hl1, hl2, hE, hO⟩ := app_core (P := G.P) w (ρ := ρ) (D := D) t o.type e ti zv ht hti hz1 hz2 sv xv len len2 f f2 sb hf hg hs hx hb hb0 hsz0
  let ρ' : Env := fun k => if k = n then l else ρ k
  have hρ : ∀ k, D k → ρ' k = ρ k := fun k hk => by
    have : k ≠ n := fun e => hn (e ▸ hk)
    simp [ρ', this]
  have hρn : ρ' n = l := by simp [ρ']
  refine ⟨.o (.l (.s n ti.size 0 (len + len2) 0)), _, n + 1, ρ', fun k => if k = n then Fo else φ k, w', hK, Nat.le_succ _, Nat.le_refl _, hρ, ?_, ⟨.inr ⟨Nat.le_refl _, Nat.lt_succ_self _⟩, fun hf' => hl1 (by rw [← hρn]; exact hf'), fun hf' => ⟨by rw [hρn] at hf' ⊢; simpa using hl2 hf', .inl rfl, Nat.le_refl _⟩⟩, .inl ?_⟩
  · have hcold : ∀ b, b < w.heap.size → some b ≠ sb → w'.heap[b]? = w.heap[b]? := hO.blk
    refine gd.put n (.ar ti.size (len + len2) F) Fo hρ (fun k hk => .inl hk) (.inr ⟨Nat.le_refl _, Nat.lt_succ_self _⟩) (fun k e' hk hne b hb' => hcold b (gd.hm.sz k e' hk b hb') fun heq => (hsb b heq.symm).1 k e' hk hb') ?_ (fun b hb' => (hO.foot b hb').1)
      (fun k e' hk hne b hb' hb'' => ?_) (fun _ b hb' => ?_) ⟨Nat.le_trans g.frm.size hO.size, fun b hb1 hb2 => ?_, hO.os.trans g.frm.os, hO.tape.trans g.frm.tape, hO.output.trans g.frm.output⟩ hO.size
    · rw [hρn]
      exact ent_ar_congr g hF hE
    · rcases (hO.foot b hb'').2 with h1 | h1
      · exact (hsb b h1.symm).1 k e' hk hb'
      · have := gd.hm.sz k e' hk b hb'
        omega
    · rcases (hO.foot b hb').2 with h1 | h1
      · exact (hsb b h1.symm).2
      · exact .inr (Nat.le_trans g.frm.size h1)
    · rw [hcold b (Nat.lt_of_lt_of_le hb1 g.frm.size) fun heq => ?_]
      · exact g.frm.blk b hb1 hb2
      · rcases (hsb b heq.symm).2 with h1 | h1
        · exact hb2 h1
        · omega
  · simp only [execOp, ho, resolve, invoke, builtin, Sem.run_bind, Sem.run_pure, Result.andThen_ok, List.map_toArray, List.map_cons, List.map_nil, hS, hX, hrun, SV.at, AV.at, LV.at, hρn]
    simp

include hr
theorem snd_app (hn : ¬ D n) {S X : Operand} {s x : O} {t e : TypeId} {ti : TypeInfo} {z : List Value} {args : Array Operand} {ats : Array TypeId} (ho : o.op = .call { callee := .builtin .append, args := args, argTypes := ats }) (hargs : args.toList = [S, X]) (hats : ats.toList = [t, t])
    (hs : cO S = some s) (hx : cO X = some x) (ht : G.P.underlying t = some (.slice e)) (hti : G.P.info? e = some ti) (hz : zerosOf G.P e = some z) (hb0 : ti.bytes ≠ 0) (hsz0 : ti.size ≠ 0)
    (he : evI (fun _ _ _ _ _ => False) (fun _ _ _ _ _ _ => False) (fun _ _ _ _ _ => False) (.app ti.size ti.bytes s x) r h n K) : Runs G o a h D n ρ w K := by
  obtain ⟨ti', zv, hi', hz1, hz2, hz3⟩ := zerosOf_some hz
  have : ti' = ti := by rw [hti] at hi'; cases hi'; rfl
  subst this
  have main : ∀ (k wd' len d k2 wd2 row2 len2 d2 m : Nat) (f f2 : Nat → List Value) (e2 : Ent), oget r s = some (.l (.s k wd' 0 len d)) → oget r x = some (.l (.s k2 wd2 row2 len2 d2)) → wd' = ti'.size → wd2 = ti'.size → k ≠ k2 →
      hget h k = some (.ar ti'.size len f) → hget h k2 = some e2 → (e2 = .ar ti'.size m f2 ∨ e2 = .ro ti'.size m f2) → row2 + len2 ≤ m → (len + len2) * ti'.bytes ≤ 140737488355328 →
      K (.o (.l (.s n ti'.size 0 (len + len2) 0))) [(n, some (.ar ti'.size (len + len2) fun j => if j < len then f j else f2 (nadd row2 (j - len)))), (k, none)] (n + 1) → Runs G o a h D n ρ w K := by
    intro k wd' len d k2 wd2 row2 len2 d2 m f f2 e2 hv1 hv2 e1 e1' hne hk hk2 he2 hm hb hK
    subst e1 e1'
    obtain ⟨hS, hSok⟩ := oget_eval hr hs hv1
    obtain ⟨hX, hXok⟩ := oget_eval hr hx hv2
    obtain ⟨hxf, hg2⟩ := rows_form g hk2 he2 hXok hm
    have hE := g.hm.at_ k _ hk
    have hgd : GM G ([(k, none)] ++ h) D ρ φ w := g.drop k
    refine app_put g hn ho hargs hats ht hti hz1 hz2 hb0 hsz0 _ _ len len2 f (fun j => f2 (nadd row2 j)) (if (ρ k).nil then none else some (ρ k).blk) hS hX ?_ hg2 ?_ hxf hb [(k, none)] hgd ?_ _ (fun j hj => rfl) hK
    · intro i hi
      rcases hE with ⟨_, h0, _⟩ | ⟨h1, h2, h3, h4, h5, cs, t0, h6, h7, h8⟩
      · omega
      · exact ⟨(h8 i hi).1, (h8 i hi).2.1⟩
    · rcases hE with ⟨h1, h0, _⟩ | ⟨h1, h2, h3, h4, h5, cs, t0, h6, h7, h8⟩
      · exact .inl ⟨by simp [AV.at, LV.at, h1], h0, by simp [h1]⟩
      · refine .inr ⟨(ρ k).blk, (ρ k).cap, cs, t0, by simp [AV.at, LV.at, h1, adr, h2], by simp [h1], h6, h7, h4, h5, fun i hi j hj => (h8 i hi).2.2 j hj⟩
    · intro b hb'
      rcases hE with ⟨h1, h0, _⟩ | ⟨h1, h2, h3, h4, h5, cs, t0, h6, h7, h8⟩
      · simp [h1] at hb'
      · simp [h1] at hb'
        have hbm : b ∈ φ k := by rw [h3, hb']; simp
        refine ⟨fun k' e' hk' hbk' => ?_, g.ow k _ hk rfl b hbm⟩
        have hk'' : hget ((k, none) :: h) k' = some e' := hk'
        rw [hget_cons] at hk''
        split at hk''
        · cases hk''
        · rename_i hkk
          exact g.hm.dj k k' _ e' hk hk'' hkk rfl b hbm hbk'
  have main0 : ∀ (k2 wd2 row2 len2 d2 m : Nat) (f2 : Nat → List Value) (e2 : Ent), oget r s = some (.l (.v (.slice none 0 0))) → oget r x = some (.l (.s k2 wd2 row2 len2 d2)) → wd2 = ti'.size →
      hget h k2 = some e2 → (e2 = .ar ti'.size m f2 ∨ e2 = .ro ti'.size m f2) → row2 + len2 ≤ m → len2 * ti'.bytes ≤ 140737488355328 →
      K (.o (.l (.s n ti'.size 0 len2 0))) [(n, some (.ar ti'.size len2 fun j => f2 (nadd row2 j)))] (n + 1) → Runs G o a h D n ρ w K := by
    intro k2 wd2 row2 len2 d2 m f2 e2 hv1 hv2 e1' hk2 he2 hm hb hK
    subst e1'
    obtain ⟨hS, hSok⟩ := oget_eval hr hs hv1
    obtain ⟨hX, hXok⟩ := oget_eval hr hx hv2
    obtain ⟨hxf, hg2⟩ := rows_form g hk2 he2 hXok hm
    refine app_put g hn ho hargs hats ht hti hz1 hz2 hb0 hsz0 _ _ 0 len2 (fun _ => []) (fun j => f2 (nadd row2 j)) none hS hX (fun i hi => by omega) hg2 (.inl ⟨rfl, rfl, rfl⟩) hxf (by rw [Nat.zero_add]; exact hb) [] g (fun b hb' => by cases hb') (fun j => f2 (nadd row2 j)) (fun j hj => by simp) ?_
    rw [Nat.zero_add]; exact hK
  simp only [evI] at he
  split at he
  · rename_i k wd' row len d k2 wd2 row2 len2 d2 hv1 hv2
    split at he
    · rename_i hw1 hw2 hkk
      have hw1 := Nat.eq_of_beq_eq_true hw1
      have hw2 := Nat.eq_of_beq_eq_true hw2
      have hne : k ≠ k2 := by intro e; subst e; simp at hkk
      split at he
      · rename_i wa nn f wb m f2 hk hk2
        split at he
        · rename_i hwa hwb
          obtain rfl := Nat.eq_of_beq_eq_true hwa
          obtain rfl := Nat.eq_of_beq_eq_true hwb
          obtain ⟨⟨rfl, q1, q2⟩, he⟩ := he
          exact main k wd' _ d k2 wd2 row2 len2 d2 m f f2 _ hv1 hv2 hw1 hw2 hne hk hk2 (.inl rfl) q1 q2 he
        · exact he.elim
      · rename_i wa nn f wb m f2 hk hk2
        split at he
        · rename_i hwa hwb
          obtain rfl := Nat.eq_of_beq_eq_true hwa
          obtain rfl := Nat.eq_of_beq_eq_true hwb
          obtain ⟨⟨rfl, q1, q2⟩, he⟩ := he
          exact main k wd' _ d k2 wd2 row2 len2 d2 m f f2 _ hv1 hv2 hw1 hw2 hne hk hk2 (.inr rfl) q1 q2 he
        · exact he.elim
      · exact he.elim
    · exact he.elim
  · rename_i k2 wd2 row2 len2 d2 hv1 hv2
    split at he
    · rename_i hw2
      have hw2 := Nat.eq_of_beq_eq_true hw2
      split at he
      · rename_i wb m f2 hk2
        split at he
        · rename_i hwb
          obtain rfl := Nat.eq_of_beq_eq_true hwb
          exact main0 k2 wd2 row2 len2 d2 m f2 _ hv1 hv2 hw2 hk2 (.inl rfl) he.1.1 he.1.2 he.2
        · exact he.elim
      · rename_i wb m f2 hk2
        split at he
        · rename_i hwb
          obtain rfl := Nat.eq_of_beq_eq_true hwb
          exact main0 k2 wd2 row2 len2 d2 m f2 _ hv1 hv2 hw2 hk2 (.inr rfl) he.1.1 he.1.2 he.2
        · exact he.elim
      · exact he.elim
    · exact he.elim
  · exact he.elim
end
end Go.Sx
