/- part -/
import Derived.Test.YtlkfolopbehikaaGreatSxPQ
set_option linter.unusedSimpArgs false
set_option linter.unusedVariables false
namespace Go.Sx
open Go
section
variable {G : Ctx}
theorem ZQC {α : Type} {b : IC} {r : Regs} {h : Heap} {n : Nat} {K : X -> Regs -> Heap -> Nat -> Prop} (R : α -> Regs) (H : α -> Heap) (N : α -> Nat) (I : α -> Prop) (μ : α -> Nat) (x0 : α) (hI : I x0) (h0 : Imp G r h n (R x0) (H x0) (N x0))
  (hr : ∀ x, I x -> evC (CallP G) (InvP G) (EscP G) (LoopP G) (DrawP G) b (R x) (H x) (N x) fun e r h n => match e with
   | .nrm => ∀ a w, Sat G r h n a w -> ∃ y, I y /\ μ y < μ x /\ Sat G (R y) (H y) (N y) a w
   | .ex id => K (.ex id) r h n
   | .ret => K .ret r h n) (hb : (match b with | .loop _ => true | _ => false) = false := by rfl) : LoopP G b r h n K := by
 rw [ZFU]
 split
 ·cases hb
 intro c hc a w hs
 refine wp_loop_ghost (P := G.P) (fun m a w => ∃ x, I x /\ μ x = m /\ Sat G (R x) (H x) (N x) a w) (μ x0) ⟨x0, hI, rfl, h0 a w hs⟩ fun m a w ⟨x, hIx, hm, hs⟩ => ?_
 refine wp_mono (ZBu c b _ _ _ _ a w hc (hr x hIx) hs) fun e a w hq => ?_
 cases e with
 | normal =>
  obtain ⟨r, h, n, hy, hs⟩ := hq
  obtain ⟨y, hy, hlt, hs'⟩ := hy a w hs
  exact ⟨μ y, by omega, y, hy, rfl, hs'⟩
 | exit id => exact hq
 | ret => exact hq
 | goto l => exact hq.elim
 | panic c => exact hq.elim
 | outgrown => exact hq.elim
structure SatP (G : Ctx) (r : Regs) (h : Heap) (n : Nat) (a : Act) (w : World) : Prop where
 out : Sat G r h n a w
theorem ZRl (G : Ctx) (r : Regs) (h : Heap) (n : Nat) (a : Act) (w : World) : SatP G r h n a w = Sat G r h n a w := propext ⟨fun h => h.out, fun h => ⟨h⟩⟩
theorem ZME {r r' : Regs} {h h' : Heap} {n n' : Nat} {a : Act} {w : World} (hs : Sat G r h n a w) (hi : Imp G r h n r' h' n') : SatP G r' h' n' a w := ⟨hi a w hs⟩
theorem ZRm {α : Type} {b : IC} {r : Regs} {h : Heap} {n : Nat} {K : X -> Regs -> Heap -> Nat -> Prop} {ds : List Nat} (N : Nat) (R : α -> Regs) (ks : List Nat) (H : α -> Heap) (I : α -> Prop) (μ : α -> Nat) (x0 : α) (hI : I x0)
  (h0 : ZHR (wrC b ds) fun w => ZI9 (R x0 ++ ZHW (ZI7 (R x0) w) r) fun r1 => ZFm (H x0 ++ ZHA (ZI8 (H x0) ks) h) fun h1 => Imp G r h n r1 h1 N)
  (hr : ∀ x, I x -> ZHR (wrC b ds) fun w => ZI9 (R x ++ ZHW (ZI7 (R x) w) r) fun r1 => ZFm (H x ++ ZHA (ZI8 (H x) ks) h) fun h1 => evC (CallP G) (InvP G) (EscP G) (LoopP G) (DrawP G) b r1 h1 N fun e r' h' n' => match e with
   | .nrm => ∀ a aw, Sat G r' h' n' a aw -> ∃ y, I y /\ μ y < μ x /\ ZI9 (R y ++ ZHW (ZI7 (R y) w) r) fun r1 => ZFm (H y ++ ZHA (ZI8 (H y) ks) h) fun h1 => SatP G r1 h1 N a aw
   | .ex id => K (.ex id) r' h' n'
   | .ret => K .ret r' h' n') (hb : ZPS b = false := by rfl) : LoopP G b r h n K := by
 simp only [ZFO, ZMR, ZCL, ZRl] at h0 hr
 exact ZQC (fun x => R x ++ ZHW (ZI7 (R x) (wrC b ds)) r) (fun x => H x ++ ZHA (ZI8 (H x) ks) h) (fun _ => N) I μ x0 hI h0 hr (by cases b <;> first | rfl | cases hb)
end
theorem ZHs {h : Heap} {D : Nat -> Prop} {ρ : Env} {φ : Nat -> List Nat} {w : World} (g : HM h D ρ φ w) {k : Nat} {e e' : Ent} (hk : hget h k = some e) (ho : e.own = true) (he : ZBl e' ρ D (ρ k) (φ k) w) : HM ((k, some e') :: h) D ρ φ w := by
 have old : ∀ j ej, hget ((k, some e') :: h) j = some ej -> (j = k /\ ej = e') \/ (j ≠ k /\ hget h j = some ej) := fun j ej hj => by
  rw [ZAJ] at hj
  split at hj
  ·rename_i hh; cases hj; exact .inl ⟨hh.symm, rfl⟩
  ·rename_i hh; exact .inr ⟨Ne.symm hh, hj⟩
 refine ⟨fun j ej hj => ?_, fun j ej hj => ?_, fun j j' ej ej' hj hj' hne hoj b hb hb' => ?_, fun j ej hj b hb => ?_⟩
 ·rcases old j ej hj with ⟨rfl, rfl⟩ | ⟨_, h2⟩
  ·exact he
  ·exact g.at_ j ej h2
 ·rcases old j ej hj with ⟨rfl, rfl⟩ | ⟨_, h2⟩
  ·exact g.lt _ _ hk
  ·exact g.lt j ej h2
 ·rcases old j ej hj with ⟨rfl, rfl⟩ | ⟨h1, h2⟩
  ·rcases old j' ej' hj' with ⟨rfl, rfl⟩ | ⟨h3, h4⟩
   ·exact hne rfl
   ·exact g.dj _ _ _ _ hk h4 hne ho b hb hb'
  ·rcases old j' ej' hj' with ⟨rfl, rfl⟩ | ⟨h3, h4⟩
   ·exact g.dj _ _ _ _ hk h2 (Ne.symm hne) ho b hb' hb
   ·exact g.dj _ _ _ _ h2 h4 hne hoj b hb hb'
 ·rcases old j ej hj with ⟨rfl, rfl⟩ | ⟨_, h2⟩
  ·exact g.sz _ _ hk b hb
  ·exact g.sz j ej h2 b hb
theorem ZMF {h : Heap} {D : Nat -> Prop} {ρ : Env} {φ : Nat -> List Nat} {w : World} (g : HM h D ρ φ w) {k kz : Nat} {e ez ez' : Ent} (hne : k ≠ kz) (hk : hget h k = some e) (ho : e.own = true) (hz : hget h kz = some ez) (hoz : ez.own = true)
  (he : ZBl ez' ρ D (ρ kz) (φ kz ++ φ k) w) : HM ((kz, some ez') :: (k, none) :: h) D ρ (fun j => if j = kz then φ kz ++ φ k else φ j) w := by
 have old : ∀ j ej, hget ((kz, some ez') :: (k, none) :: h) j = some ej -> (j = kz /\ ej = ez') \/ (j ≠ kz /\ j ≠ k /\ hget h j = some ej) := fun j ej hj => by
  rw [ZAJ] at hj
  split at hj
  ·rename_i hh; cases hj; exact .inl ⟨hh.symm, rfl⟩
  ·rename_i hh
   rw [ZAJ] at hj
   split at hj
   ·cases hj
   ·rename_i hh2; exact .inr ⟨Ne.symm hh, Ne.symm hh2, hj⟩
 refine ⟨fun j ej hj => ?_, fun j ej hj => ?_, fun j j' ej ej' hj hj' hnj hoj b hb hb' => ?_, fun j ej hj b hb => ?_⟩
 ·rcases old j ej hj with ⟨rfl, rfl⟩ | ⟨h1, _, h2⟩
  ·simp only [if_true]; exact he
  ·simp only [h1, if_false]; exact g.at_ j ej h2
 ·rcases old j ej hj with ⟨rfl, rfl⟩ | ⟨_, _, h2⟩
  ·exact g.lt _ _ hz
  ·exact g.lt j ej h2
 ·rcases old j ej hj with ⟨rfl, rfl⟩ | ⟨h1, h1', h2⟩
  ·simp only [if_true] at hb
   rcases old j' ej' hj' with ⟨rfl, rfl⟩ | ⟨h3, h3', h4⟩
   ·exact hnj rfl
   ·simp only [h3, if_false] at hb'
    rcases List.mem_append.1 hb with hb | hb
    ·exact g.dj _ _ _ _ hz h4 hnj hoz b hb hb'
    ·exact g.dj _ _ _ _ hk h4 (Ne.symm h3') ho b hb hb'
  ·simp only [h1, if_false] at hb
   rcases old j' ej' hj' with ⟨rfl, rfl⟩ | ⟨h3, _, h4⟩
   ·simp only [if_true] at hb'
    rcases List.mem_append.1 hb' with hb' | hb'
    ·exact g.dj _ _ _ _ hz h2 (Ne.symm hnj) hoz b hb' hb
    ·exact g.dj _ _ _ _ hk h2 (Ne.symm h1') ho b hb' hb
   ·simp only [h3, if_false] at hb'
    exact g.dj _ _ _ _ h2 h4 hnj hoj b hb hb'
 ·rcases old j ej hj with ⟨rfl, rfl⟩ | ⟨h1, _, h2⟩
  ·simp only [if_true] at hb
   rcases List.mem_append.1 hb with hb | hb
   ·exact g.sz _ _ hz b hb
   ·exact g.sz _ _ hk b hb
  ·simp only [h1, if_false] at hb
   exact g.sz j ej h2 b hb
theorem ZAW.nothing {h : Heap} {n : Nat} (R : List Loc -> Loc -> List Nat -> World -> Prop) (hs : ZDb (R [])) (hR : ∀ w, R [] nilL [] w) : ZAW h n ((n, some (.ob [] R)) :: h) (n + 1) := by
 refine ⟨Nat.le_succ n, fun ρ φ w g => ?_⟩
 have hρ : ∀ k, lt n k -> (fun k => if k = n then nilL else ρ k) k = ρ k := fun k hk => by simp only [lt] at hk; simp [Nat.ne_of_lt hk]
 have old : ∀ k e, hget ((n, some (.ob [] R)) :: h) k = some e -> (k = n /\ e = .ob [] R) \/ (k ≠ n /\ hget h k = some e) := fun k e hk => by
  rw [ZAJ] at hk
  split at hk
  ·rename_i hh; cases hk; exact .inl ⟨hh.symm, rfl⟩
  ·rename_i hh; exact .inr ⟨Ne.symm hh, hk⟩
 refine ⟨_, fun k => if k = n then [] else φ k, fun k hk => hρ k hk, ⟨fun k e hk => ?_, fun k e hk => ?_, fun k k' e e' hk hk' hkk ho b hb hb' => ?_, fun k e hk b hb => ?_⟩, fun k e hk ho b hb => ?_, fun k e hk b hb => ?_⟩
 ·rcases old k e hk with ⟨rfl, rfl⟩ | ⟨h1, h2⟩
  ·simp only [if_true]; exact ⟨hs, fun k hk => (by cases hk), hR w⟩
  ·simp only [h1, if_false]
   exact ZBl.mono hρ (fun k hk => Nat.lt_succ_of_lt hk) (fun _ _ => rfl) (g.at_ k e h2)
 ·rcases old k e hk with ⟨rfl, rfl⟩ | ⟨h1, h2⟩
  ·exact Nat.lt_succ_self _
  ·exact Nat.lt_succ_of_lt (g.lt k e h2)
 ·rcases old k e hk with ⟨rfl, rfl⟩ | ⟨h1, h2⟩
  ·simp at hb
  ·simp only [h1, if_false] at hb
   rcases old k' e' hk' with ⟨rfl, rfl⟩ | ⟨h3, h4⟩
   ·simp at hb'
   ·simp only [h3, if_false] at hb'
    exact g.dj k k' e e' h2 h4 hkk ho b hb hb'
 ·rcases old k e hk with ⟨rfl, rfl⟩ | ⟨h1, h2⟩
  ·simp at hb
  ·simp only [h1, if_false] at hb; exact g.sz k e h2 b hb
 ·rcases old k e hk with ⟨rfl, rfl⟩ | ⟨h1, h2⟩
  ·simp at hb
  ·simp only [h1, if_false] at hb; exact ⟨k, e, h2, ho, hb⟩
 ·rcases old k e hk with ⟨rfl, rfl⟩ | ⟨h1, h2⟩
  ·simp at hb
  ·simp only [h1, if_false] at hb; exact ⟨k, e, h2, hb⟩
theorem ZAW.nilh {h : Heap} {n : Nat} (k wd : Nat) (f : Nat -> List Value) {m i : Nat} {g : Nat -> Value} (hk : hget h k = some (.hl m g i (.v (.slice none 0 0)))) : ZAW h n ((k, some (.hl m g i (.s n wd 0 0 0))) :: (n, some (.ar wd 0 f)) :: h) (n + 1) := by
 refine ⟨Nat.le_succ n, fun ρ φ w hm => ?_⟩
 have hρ : ∀ k, lt n k -> (fun k => if k = n then nilL else ρ k) k = ρ k := fun k hk => by simp only [lt] at hk; simp [Nat.ne_of_lt hk]
 have hkn : k ≠ n := Nat.ne_of_lt (hm.lt k _ hk)
 have g1 := ZMS hm wd f
 have hk1 : hget ((n, some (.ar wd 0 f)) :: h) k = some (.hl m g i (.v (.slice none 0 0))) := by rw [ZAJ, if_neg (Ne.symm hkn)]; exact hk
 obtain ⟨e1, ⟨e2, e3⟩, cs, t, e4, e5, e6⟩ := g1.at_ k _ hk1
 have old : ∀ j' e, hget ((k, some (.hl m g i (.s n wd 0 0 0))) :: (n, some (.ar wd 0 f)) :: h) j' = some e -> j' = n \/ (j' ≠ n /\ ∃ e', hget h j' = some e' /\ e'.own = e.own) := fun j' e hj' => by
  rw [ZAJ] at hj'
  split at hj'
  ·rename_i hh; subst hh; cases hj'
   exact .inr ⟨hkn, _, hk, rfl⟩
  ·rw [ZAJ] at hj'
   split at hj'
   ·rename_i hh; exact .inl hh.symm
   ·rename_i hh; exact .inr ⟨Ne.symm hh, e, hj', rfl⟩
 refine ⟨_, _, fun k hk => hρ k hk, ZHs g1 hk1 rfl ⟨e1, ⟨e2, ⟨Nat.lt_succ_self n, fun _ => rfl, fun hh => by simp [nilL] at hh⟩⟩, cs, t, e4, e5, fun j hj => ?_⟩, fun j' e hj' ho b hb => ?_, fun j' e hj' b hb => ?_⟩
 ·have := e6 j hj
  simpa [LV.at, nilL] using this
 ·rcases old j' e hj' with rfl | ⟨h1, e', h2, h3⟩
  ·simp at hb
  ·simp only [h1, if_false] at hb
   exact ⟨j', e', h2, by rw [h3]; exact ho, hb⟩
 ·rcases old j' e hj' with rfl | ⟨h1, e', h2, h3⟩
  ·simp at hb
  ·simp only [h1, if_false] at hb
   exact ⟨j', e', h2, hb⟩
theorem ZAW.hole {h : Heap} {n : Nat} (k i' : Nat) (g' : Nat -> Value) (v' : Value) {m i : Nat} {g : Nat -> Value} {v : Value} (hk : hget h k = some (.hl m g i (.v v))) (hi : i' < m) (he : ∀ j, j < m -> (if j = i then v else g j) = if j = i' then v' else g' j) : ZAW h n ((k, some (.hl m g' i' (.v v'))) :: h) n := by
 refine ⟨Nat.le_refl n, fun ρ φ w hm => ?_⟩
 obtain ⟨e1, ⟨e2, e3⟩, cs, t, e4, e5, e6⟩ := hm.at_ k _ hk
 have old : ∀ j e, hget ((k, some (.hl m g' i' (.v v'))) :: h) j = some e -> ∃ e', hget h j = some e' /\ e'.own = e.own := fun j e hj => by
  rw [ZAJ] at hj
  split at hj
  ·rename_i hh; subst hh; cases hj; exact ⟨_, hk, rfl⟩
  ·exact ⟨e, hj, rfl⟩
 refine ⟨ρ, φ, fun _ _ => rfl, ZHs hm hk rfl ⟨e1, ⟨hi, trivial⟩, cs, t, e4, e5, fun j hj => ?_⟩, fun j e hj ho b hb => ?_, fun j e hj b hb => ?_⟩
 ·have := e6 j hj
  simp only [LV.at] at this ⊢
  rw [<- he j hj]; exact this
 ·obtain ⟨e', h1, h2⟩ := old j e hj
  exact ⟨j, e', h1, by rw [h2]; exact ho, hb⟩
 ·obtain ⟨e', h1, h2⟩ := old j e hj
  exact ⟨j, e', h1, hb⟩
theorem ZAW.tohl {h : Heap} {n : Nat} (k i : Nat) (g : Nat -> Value) (v : Value) {m : Nat} {f : Nat -> List Value} (hk : hget h k = some (.ar 1 m f)) (hi : i < m) (he : ∀ j, j < m -> f j = [if j = i then v else g j]) : ZAW h n ((k, some (.hl m g i (.v v))) :: h) n := by
 refine ⟨Nat.le_refl n, fun ρ φ w hm => ?_⟩
 have old : ∀ j e, hget ((k, some (.hl m g i (.v v))) :: h) j = some e -> ∃ e', hget h j = some e' /\ e'.own = e.own := fun j e hj => by
  rw [ZAJ] at hj
  split at hj
  ·rename_i hh; subst hh; cases hj; exact ⟨_, hk, rfl⟩
  ·exact ⟨e, hj, rfl⟩
 have ha : ZBl (.hl m g i (.v v)) ρ (lt n) (ρ k) (φ k) w := ZCe.at_ (ι := id) (e' := .ar 1 m f) ⟨v, rfl, rfl, rfl, hi, he⟩ (fun _ hh => hh) (hm.at_ k _ hk)
 refine ⟨ρ, φ, fun _ _ => rfl, ZHs hm hk rfl ha, fun j e hj ho b hb => ?_, fun j e hj b hb => ?_⟩
 ·obtain ⟨e', h1, h2⟩ := old j e hj
  exact ⟨j, e', h1, by rw [h2]; exact ho, hb⟩
 ·obtain ⟨e', h1, h2⟩ := old j e hj
  exact ⟨j, e', h1, hb⟩
def ZEw (E : Nat) (row : Nat -> Nat -> List Value) (a : Nat) (val : Nat -> Value) : List Loc -> Loc -> List Nat -> World -> Prop := fun _ _ F w =>
 ∃ (L : Nat -> Loc) (Fs : Nat -> List Nat), (∀ j, j < a -> val j = (LV.s 0 1 0 E 0).at (fun _ => L j) /\ ArAt 1 E (row j) (L j) (Fs j) w) /\ ∀ b, b ∈ F ↔ ∃ j, j < a /\ b ∈ Fs j
theorem ZB4 (E : Nat) (row : Nat -> Nat -> List Value) (a : Nat) (val : Nat -> Value) (ls : List Loc) : ZDb (ZEw E row a val ls) := fun l F w w' ⟨L, Fs, h1, h2⟩ hw =>
 ⟨L, Fs, fun j hj => ⟨(h1 j hj).1, (h1 j hj).2.mono fun b hb => hw b ((h2 b).2 ⟨j, hj, hb⟩)⟩, h2⟩
theorem ZHt (E : Nat) (row : Nat -> Nat -> List Value) (val : Nat -> Value) (w : World) : ZEw E row 0 val [] nilL [] w :=
 ⟨fun _ => nilL, fun _ => [], fun j hj => absurd hj (Nat.not_lt_zero j), fun b => ⟨fun h => (by cases h), fun ⟨j, hj, _⟩ => absurd hj (Nat.not_lt_zero j)⟩⟩
theorem ZO5 {G : Ctx} {r : Regs} {h : Heap} {n : Nat} {E T a k0 k kz : Nat} {row : Nat -> Nat -> List Value} {g : Nat -> List Value} {val : Nat -> Value} {f : Nat -> Value} {act : Act} {w : World} (hs : Sat G r h n act w)
  (hk0 : hget h k0 = some (.hl T f a (.s k 1 0 E 0))) (hk : hget h k = some (.ar 1 E g)) (hz : hget h kz = some (.ob [] (ZEw E row a val))) (h1 : k ≠ kz) (h2 : k0 ≠ kz) (h3 : k0 ≠ k) (hg : ∀ q, q < E -> g q = row a q) :
  ∃ v, Sat G r ((k0, some (.hl T f a (.v v))) :: (kz, some (.ob [] (ZEw E row (a + 1) fun j => if j = a then v else val j))) :: (k, none) :: h) n act w := by
 obtain ⟨ρ, φ, gm, hr, hd⟩ := hs
 have hm := gm.hm
 have A := hm.at_ k _ hk
 obtain ⟨Z1, Z2, L, Fs, Z3, Z4⟩ := hm.at_ kz _ hz
 have A' : ArAt 1 E (row a) (ρ k) (φ k) w := by
  rcases A with A | ⟨b1, b2, b3, b4, b5, cs, t, b6, b7, b8⟩
  ·exact .inl A
  ·exact .inr ⟨b1, b2, b3, b4, b5, cs, t, b6, b7, fun q hq => by rw [<- hg q hq]; exact b8 q hq⟩
 refine ⟨(LV.s k 1 0 E 0).at ρ, ρ, _, ZGL (ρ2 := ρ) (φ2 := fun j => if j = kz then φ kz ++ φ k else φ j) gm (Nat.le_refl n) (fun _ _ => rfl) ?_ (ZI3 w _) ?_ ?_, hr, hd⟩
 ·have hm1 := ZMF (ez' := .ob [] (ZEw E row (a + 1) fun j => if j = a then (LV.s k 1 0 E 0).at ρ else val j)) hm h1 hk rfl hz rfl ⟨ZB4 _ _ _ _ _, fun k hk => (by cases hk), fun j => if j = a then ρ k else L j, fun j => if j = a then φ k else Fs j, fun j hj => ?_, fun b => ?_⟩
  ·have hk0' : hget ((kz, some (.ob [] (ZEw E row (a + 1) fun j => if j = a then (LV.s k 1 0 E 0).at ρ else val j))) :: (k, none) :: h) k0 = some (.hl T f a (.s k 1 0 E 0)) := by
    rw [ZAJ, if_neg (Ne.symm h2), ZAJ, if_neg (Ne.symm h3)]; exact hk0
   obtain ⟨c1, ⟨c2, _⟩, cs, t, c3, c4, c5⟩ := hm1.at_ k0 _ hk0'
   exact ZHs hm1 hk0' rfl ⟨c1, ⟨c2, trivial⟩, cs, t, c3, c4, c5⟩
  ·by_cases hja : j = a
   ·subst hja
    simp only [if_true]
    exact ⟨rfl, A'⟩
   ·simp only [hja, if_false]
    exact Z3 j (by omega)
  ·rw [List.mem_append, Z4 b]
   constructor
   ·rintro (⟨j, hj, hb⟩ | hb)
    ·exact ⟨j, by omega, by simp only [if_neg (show ¬ j = a by omega)]; exact hb⟩
    ·exact ⟨a, by omega, by simp only [if_true]; exact hb⟩
   ·rintro ⟨j, hj, hb⟩
    by_cases hja : j = a
    ·subst hja
     simp only [if_true] at hb; exact .inr hb
    ·simp only [if_neg hja] at hb; exact .inl ⟨j, by omega, hb⟩
 ·intro j e2 hj ho b hb
  rw [ZAJ] at hj
  split at hj
  ·rename_i hh; subst hh; cases hj
   simp only [if_neg h2] at hb
   exact .inl ⟨k0, _, hk0, rfl, hb⟩
  ·rw [ZAJ] at hj
   split at hj
   ·rename_i hh; subst hh; cases hj
    simp only [if_true] at hb
    rcases List.mem_append.1 hb with hb | hb
    ·exact .inl ⟨kz, _, hz, rfl, hb⟩
    ·exact .inl ⟨k, _, hk, rfl, hb⟩
   ·rename_i hh
    rw [ZAJ] at hj
    split at hj
    ·cases hj
    ·simp only [if_neg (Ne.symm hh)] at hb
     exact .inl ⟨j, e2, hj, ho, hb⟩
 ·intro j e2 hj b hb
  rw [ZAJ] at hj
  split at hj
  ·rename_i hh; subst hh; cases hj
   simp only [if_neg h2] at hb
   exact .inl ⟨k0, _, hk0, hb⟩
  ·rw [ZAJ] at hj
   split at hj
   ·rename_i hh; subst hh; cases hj
    simp only [if_true] at hb
    rcases List.mem_append.1 hb with hb | hb
    ·exact .inl ⟨kz, _, hz, hb⟩
    ·exact .inl ⟨k, _, hk, hb⟩
   ·rename_i hh
    rw [ZAJ] at hj
    split at hj
    ·cases hj
    ·simp only [if_neg (Ne.symm hh)] at hb
     exact .inl ⟨j, e2, hj, hb⟩
end Go.Sx
