/- part -/
import Derived.Test.YtlkfolopbehikaaGreatSxI
set_option linter.unusedSimpArgs false
set_option linter.unusedVariables false
set_option linter.unusedSectionVars false
namespace Go.Sx
open Go
def ZBh (f : Nat -> List Value) : Nat -> List Value
 | 0 => []
 | m + 1 => ZBh f m ++ f m
theorem ZDE {f : Nat -> List Value} {wd : Nat} : ∀ {m : Nat}, (∀ i, i < m -> (f i).length = wd) -> (ZBh f m).length = m * wd
 | 0, _ => by simp [ZBh]
 | m + 1, h => by rw [ZBh, List.length_append, ZDE (m := m) (fun i hi => h i (by omega)), h m (by omega), Nat.add_mul, Nat.one_mul]
theorem ZDd {f : Nat -> List Value} {wd : Nat} : ∀ {m : Nat}, (∀ i, i < m -> (f i).length = wd) -> ∀ i j, i < m -> j < wd -> (ZBh f m)[i * wd + j]? = (f i)[j]?
 | 0, _, i, j, hi, _ => by omega
 | m + 1, h, i, j, hi, hj => by
  have hl := ZDE (f := f) (wd := wd) (m := m) (fun i hi => h i (by omega))
  rw [ZBh]
  by_cases hm : i < m
  ·have : i * wd + j < m * wd := by
    have : (i + 1) * wd <= m * wd := Nat.mul_le_mul_right _ hm
    rw [Nat.add_mul] at this
    omega
   rw [List.getElem?_append_left (by omega), ZDd (fun i hi => h i (by omega)) i j hm hj]
  ·obtain rfl : i = m := by omega
   rw [List.getElem?_append_right (by omega), hl]
   congr 1; omega
theorem ZJ6 {f : Nat -> List Value} : ∀ {m : Nat} {x : Value}, x ∈ ZBh f m -> ∃ i, i < m /\ x ∈ f i
 | 0, x, h => by simp [ZBh] at h
 | m + 1, x, h => by
  rw [ZBh] at h
  rcases List.mem_append.1 h with h | h
  ·obtain ⟨i, hi, hx⟩ := ZJ6 h
   exact ⟨i, by omega, hx⟩
  ·exact ⟨m, by omega, h⟩
section
variable {P : Program} (w : World)
theorem ZEt (t ty e t0 : TypeId) (i : TypeInfo) (ht : P.underlying t = some (.slice e)) (hi : P.info? e = some i)
  (g sLen sCap : Nat) (cur : Array Value) (hg : w.heap[g]? = some (.cells cur t0 (0, 0)))
  (a : Addr) (m c : Nat) (news : List Value) (hl : news.length = m * i.size) (hnews : ∀ j u, news[j]? = some u -> w.cell? (a.add j) = some u) (h1 : ∀ u ∈ news, u.oneCell' = true)
  (hroom : sLen + m <= sCap) (hfit : sLen * i.size + news.length <= cur.size) :
  (Builtin.append_ #[t, t] ty #[.slice (some ⟨g, 0, none⟩) sLen sCap, .slice (some a) m c]).run P w =
   .ok (.slice (some ⟨g, 0, none⟩) (sLen + m) sCap) (w.setRow g (cur.toList.take (sLen * i.size) ++ news ++ cur.toList.drop (sLen * i.size + news.length)).toArray) := by
 have hf := run_firstCells_some (P := P) w i.size m a m c news hl hnews
 have hst := run_storeCells_at P g (sLen * i.size) t0 news 0 cur w hg (by simpa using hfit) h1
 simp only [Nat.add_zero] at hst
 simp [Builtin.append_, run_underlying ht, sizeOf, typeInfo, hi, Builtin.lenOf, hroom, hf, Addr.add_lit, hst]
theorem ZD7 (t ty e : TypeId) (i : TypeInfo) (ht : P.underlying t = some (.slice e)) (hi : P.info? e = some i) (A : Option Addr) (sLen sCap : Nat) (hA : A = none \/ ∃ g, A = some g) (hc : sLen <= sCap) :
  (Builtin.append_ #[t, t] ty #[.slice A sLen sCap, .slice none 0 0]).run P w = .ok (.slice A sLen sCap) w := by
 rcases hA with rfl | ⟨g, rfl⟩
 ·simp [Builtin.append_, run_underlying ht, sizeOf, typeInfo, hi, Builtin.lenOf, hc, Builtin.firstCells]
 ·simp [Builtin.append_, run_underlying ht, sizeOf, typeInfo, hi, Builtin.lenOf, hc, Builtin.firstCells, storeCells]
theorem ZGn (t ty e : TypeId) (i : TypeInfo) (ht : P.underlying t = some (.slice e)) (hi : P.info? e = some i) (a : Addr) (c : Nat) :
  (Builtin.append_ #[t, t] ty #[.slice none 0 0, .slice (some a) 0 c]).run P w = .ok (.slice none 0 0) w := by
 simp [Builtin.append_, run_underlying ht, sizeOf, typeInfo, hi, Builtin.lenOf, Builtin.firstCells, loadCells, loadCellsFrom]
structure AppOut (w w' : World) (sb : Option Nat) (l : Loc) (F : List Nat) : Prop where
 os : w'.os = w.os
 tape : w'.tape = w.tape
 output : w'.output = w.output
 size : w.heap.size <= w'.heap.size
 blk : ∀ b, b < w.heap.size -> some b ≠ sb -> w'.heap[b]? = w.heap[b]?
 foot : ∀ b ∈ F, b < w'.heap.size /\ (some b = sb \/ w.heap.size <= b)
theorem ZGo {ρ : Env} {D : Nat -> Prop} {l : Loc} {w : World} {wd m : Nat} {F : Nat -> List Value} (cs : Array Value) (t : TypeId) (xs : List Value) (hn : l.nil = false) (ho : l.off = 0 /\ l.spot = none) (hm : m <= l.cap) (hc : l.cap <= maxLen)
  (hb : w.heap[l.blk]? = some (.cells cs t (0, 0))) (hs : cs.size = l.cap * wd) (hx : cs.toList.take (m * wd) = xs) (hF : ∀ i, i < m -> (F i).length = wd /\ (∀ x ∈ F i, x.oneCell' = true) /\ ∀ j, j < wd -> xs[i * wd + j]? = (F i)[j]?) :
  ZBl (.ar wd m F) ρ D l [l.blk] w := by
 refine .inr ⟨hn, ho, rfl, hm, hc, cs, t, hb, hs, fun i hi => ⟨(hF i hi).1, (hF i hi).2.1, fun j hj => ?_⟩⟩
 rw [<- (hF i hi).2.2 j hj, <- hx, List.getElem?_take]
 have : i * wd + j < m * wd := by
  have : (i + 1) * wd <= m * wd := Nat.mul_le_mul_right _ hi
  rw [Nat.add_mul] at this
  omega
 rw [if_pos this, Array.getElem?_toList]
theorem ZCc (d : DV) (x : Nat × Nat) : ∀ q : List (Nat × Nat), ZAv d (q ++ [x]) = ZAv (match d with | .sl _ _ f => f x.1 x.2 | .v y => .v y) q
 | [] => by cases d <;> simp [ZAv]
 | (i, c) :: q => by simp only [List.cons_append, ZAv, ZCc d x q]
def ZAf (p : List (Nat × Nat)) : Nat × Nat := p.getLastD (0, 0)
theorem ZNG {p : List (Nat × Nat)} (h : p ≠ []) : p = p.dropLast ++ [ZAf p] := by
 have := List.dropLast_concat_getLast h
 rw [ZAf, List.getLastD_eq_getLast?, List.getLast?_eq_some_getLast h]
 simpa using this.symm
theorem ZCj {y : Nat × Nat} {p : List (Nat × Nat)} (h : p ≠ []) : ZAf (y :: p) = ZAf p := by
 cases p with
 | nil => exact absurd rfl h
 | cons x p => rfl
theorem ZCM {y : Nat × Nat} {p : List (Nat × Nat)} (h : p ≠ []) : (y :: p).dropLast = y :: p.dropLast := by
 cases p with
 | nil => exact absurd rfl h
 | cons x p => rfl
theorem ZBK {wd n : Nat} {f : Nat -> Nat -> DV} {p : List (Nat × Nat)} (h : p ≠ []) : ZAv (.sl wd n f) p = ZAv (f (ZAf p).1 (ZAf p).2) p.dropLast := by
 conv => lhs; rw [ZNG h]
 rw [ZCc]
theorem ZHm {sub : List (Nat × Nat) -> Loc0} {wd m : Nat} {F : Nat -> Nat -> DV} {Fr Fc : List Nat} {w : World} (l : Loc) (h0 : (sub []).loc = l) (har : ArAt wd m (ZBA sub wd F) l Fr w)
  (hth : ∀ i, i < m -> ∀ c, c < wd -> ∀ wd2 n2 f2, F i c = .sl wd2 n2 f2 -> (sub [(i, c)]).there = true)
  (hsel : ∀ p, p ≠ [] -> (sub p).there = true -> ∃ s d FrS FcS p', ZDv s d FrS FcS w p' /\ ZAv (.sl wd m F) p = ZAv d p' /\ sub p = s p' /\ (∀ x, sub (x :: p) = s (x :: p')) /\ ∀ b, (b ∈ match p' with | [] => FrS | _ => FcS) -> b ∈ Fc) :
  ZLN sub (.sl wd m F) Fr Fc w := by
 intro p wd' n' f' ht hd
 cases p with
 | nil =>
  simp only [ZAv, DV.sl.injEq] at hd
  obtain ⟨rfl, rfl, rfl⟩ := hd
  rw [h0]
  rcases har with ⟨h1, h2, h3⟩ | ⟨h1, h2, h3, h4, h5, cs, t, h6, h7, h8⟩
  ·refine ⟨fun _ => h2, fun hh => ?_, fun i hi => by omega⟩
   rw [h1] at hh; cases hh
  ·refine ⟨fun hh => (by rw [h1] at hh; cases hh), fun _ => h4, fun i hi => ⟨h1, ?_, fun c hc => ?_⟩⟩
   ·rw [show (sub []).blk = l.blk from by rw [<- h0]; rfl, h3]; simp
   ·obtain ⟨h9, h10, h11⟩ := h8 i hi
    have hrow : (ZBA sub wd F i)[c]? = some (ZCb sub [(i, c)] (F i c)) := by simp [ZBA, hc]
    refine ⟨?_, h10 _ (List.mem_of_getElem? hrow), hth i hi c hc⟩
    have := h11 c hc
    rw [hrow] at this
    simp only [World.cell?, adr, h6, h2, Nat.zero_add, ite_self, Option.isSome_none, Bool.false_eq_true, if_false, this]
 | cons x p =>
  obtain ⟨s, d, FrS, FcS, p', hN, h1, h2, h3, h4⟩ := hsel (x :: p) (by simp) ht
  rw [h2] at ht ⊢
  obtain ⟨k1, k2, k3⟩ := hN wd' n' f' ht (by rw [<- h1]; exact hd)
  refine ⟨k1, k2, fun i hi => ?_⟩
  obtain ⟨k4, k5, k6⟩ := k3 i hi
  refine ⟨k4, h4 _ k5, fun c hc => ?_⟩
  obtain ⟨k7, k8, k9⟩ := k6 c hc
  have hv : ZCb sub ((i, c) :: x :: p) (f' i c) = ZCb s ((i, c) :: p') (f' i c) := by
   cases f' i c with
   | v y => rfl
   | sl a b e => simp only [ZCb, h3]
  rw [hv]
  exact ⟨k7, k8, fun a b e he => by rw [h3]; exact k9 a b e he⟩
theorem ZL7 {ρ : Env} {D : Nat -> Prop} (t ty e : TypeId) (ti : TypeInfo) (zv : Value) (ht : P.underlying t = some (.slice e)) (hti : P.info? e = some ti) (hz1 : ti.zero = some zv) (hz2 : zv.cells.size = ti.size)
  (sv xv : Value) (len len2 : Nat) (f g : Nat -> List Value) (sb : Option Nat)
  (hf : ∀ i, i < len -> (f i).length = ti.size /\ (∀ x ∈ f i, x.oneCell' = true))
  (hg : ∀ i, i < len2 -> (g i).length = ti.size /\ (∀ x ∈ g i, x.oneCell' = true))
  (hs : (sv = .slice none 0 0 /\ len = 0 /\ sb = none) \/ ∃ b cap cs t0, sv = .slice (some ⟨b, 0, none⟩) len cap /\ sb = some b /\ w.heap[b]? = some (.cells cs t0 (0, 0)) /\ cs.size = cap * ti.size /\ len <= cap /\ cap <= maxLen /\
   ∀ i, i < len -> ∀ j, j < ti.size -> cs[i * ti.size + j]? = (f i)[j]?)
  (hx : (xv = .slice none 0 0 /\ len2 = 0) \/ ∃ ad c, xv = .slice (some ad) len2 c /\ ∀ i, i < len2 -> ∀ j, j < ti.size -> w.cell? (ad.add (i * ti.size + j)) = (g i)[j]?)
  (hb : (len + len2) * ti.bytes <= 140737488355328) (hb0 : ti.bytes ≠ 0) (hsz0 : ti.size ≠ 0) :
  ∃ l F w', (Builtin.append_ #[t, t] ty #[sv, xv]).run P w = .ok (if l.nil then .slice none 0 0 else .slice (some (adr l 0)) (len + len2) l.cap) w' /\ (l.nil = true -> len + len2 = 0) /\ (l.nil = false -> len + len2 <= l.cap) /\
   ZBl (.ar ti.size (len + len2) fun j => if j < len then f j else g (j - len)) ρ D l F w' /\ AppOut w w' sb l F := by
 have hlen2 : len + len2 <= 140737488355328 := by
  have : len + len2 <= (len + len2) * ti.bytes := Nat.le_mul_of_pos_right _ (Nat.pos_of_ne_zero hb0)
  omega
 have hol : (ZBh f len).length = len * ti.size := ZDE fun i hi => (hf i hi).1
 have hnl : (ZBh g len2).length = len2 * ti.size := ZDE fun i hi => (hg i hi).1
 have hn1 : ∀ u ∈ ZBh g len2, u.oneCell' = true := fun u hu => by
  obtain ⟨i, hi, hm⟩ := ZJ6 hu
  exact (hg i hi).2 u hm
 -- what the rows are
 have hF : ∀ i, i < len + len2 -> ((if i < len then f i else g (i - len)).length = ti.size /\ (∀ x ∈ (if i < len then f i else g (i - len)), x.oneCell' = true) /\
   ∀ j, j < ti.size -> (ZBh f len ++ ZBh g len2)[i * ti.size + j]? = (if i < len then f i else g (i - len))[j]?) := by
  intro i hi
  by_cases hil : i < len
  ·simp only [hil, if_true]
   refine ⟨(hf i hil).1, (hf i hil).2, fun j hj => ?_⟩
   have : i * ti.size + j < len * ti.size := by
    have : (i + 1) * ti.size <= len * ti.size := Nat.mul_le_mul_right _ hil
    rw [Nat.add_mul] at this
    omega
   rw [List.getElem?_append_left (by omega), ZDd (fun i hi => (hf i hi).1) i j hil hj]
  ·simp only [hil, if_false]
   have hi2 : i - len < len2 := by omega
   refine ⟨(hg _ hi2).1, (hg _ hi2).2, fun j hj => ?_⟩
   have e1 : i * ti.size = (i - len) * ti.size + len * ti.size := by rw [<- Nat.add_mul]; congr 1; omega
   rw [List.getElem?_append_right (by omega), hol, show i * ti.size + j - len * ti.size = (i - len) * ti.size + j by omega, ZDd (fun i hi => (hg i hi).1) _ j hi2 hj]
 have split : ∀ q m : Nat, q < m * ti.size -> ∃ i j, i < m /\ j < ti.size /\ q = i * ti.size + j := fun q m hq =>
  ⟨q / ti.size, q % ti.size, Nat.div_lt_of_lt_mul (by rw [Nat.mul_comm]; exact hq), Nat.mod_lt _ (Nat.pos_of_ne_zero hsz0), by rw [Nat.mul_comm]; exact (Nat.div_add_mod q ti.size).symm⟩
 have refl : ∀ (w' : World) (hw : w' = w) (l : Loc), AppOut w w' sb l [] := fun w' hw l => by subst hw; exact ⟨rfl, rfl, rfl, Nat.le_refl _, fun _ _ _ => rfl, fun b hb => by cases hb⟩
 -- a new block
 have fresh : ∀ (cap : Nat) (cells : Array Value), len + len2 <= cap -> cap <= maxLen -> cells.size = cap * ti.size -> cells.toList.take ((len + len2) * ti.size) = ZBh f len ++ ZBh g len2 ->
   ZBl (.ar ti.size (len + len2) fun j => if j < len then f j else g (j - len)) ρ D { blk := w.heap.size, off := 0, cap := cap, nil := false } [w.heap.size] (w.drew.alloc (.cells cells e)) /\ AppOut w (w.drew.alloc (.cells cells e)) sb { blk := w.heap.size, off := 0, cap := cap, nil := false } [w.heap.size] := by
  intro cap cells h1 h2 h3 h4
  refine ⟨ZGo (l := { blk := w.heap.size, off := 0, cap := cap, nil := false }) cells e _ rfl ⟨rfl, rfl⟩ h1 h2 (heap_alloc_new w.drew _) h3 h4 hF, ⟨rfl, rfl, rfl, by simp, fun b hb' _ => heap_alloc_old w.drew _ b hb', fun b hb' => ?_⟩⟩
  simp at hb'; subst hb'
  exact ⟨by simp, .inr (Nat.le_refl _)⟩
 have hcapm : ∀ need old, need <= 140737488355328 -> grownCap w need old e <= maxLen := fun need old hn => grownCap_le_maxLen w need old e (by unfold maxLen; omega)
 rcases hs with ⟨rfl, rfl, rfl⟩ | ⟨b, cap, cs, t0, rfl, rfl, hcs, hcsz, hlc, hcm, hold⟩
 ·rcases hx with ⟨rfl, rfl⟩ | ⟨ad, c, rfl, hnew⟩
  ·refine ⟨{ blk := 0, off := 0, cap := 0, nil := true }, [], w, ?_, fun _ => rfl, fun h => (by cases h), .inl ⟨rfl, rfl, rfl⟩, refl w rfl _⟩
   rw [ZD7 w t ty e ti ht hti none 0 0 (.inl rfl) (Nat.le_refl _)]; rfl
  ·have hnews : ∀ j u, (ZBh g len2)[j]? = some u -> w.cell? (ad.add j) = some u := fun q u hu => by
    have hq : q < len2 * ti.size := by rw [<- hnl]; exact (List.getElem?_eq_some_iff.1 hu).1
    obtain ⟨i, j, hi, hj, rfl⟩ := split q len2 hq
    rw [hnew i hi j hj, <- hu, ZDd (fun i hi => (hg i hi).1) i j hi hj]
   by_cases h0 : len2 = 0
   ·subst h0
    refine ⟨{ blk := 0, off := 0, cap := 0, nil := true }, [], w, ?_, fun _ => rfl, fun h => (by cases h), .inl ⟨rfl, rfl, rfl⟩, refl w rfl _⟩
    rw [ZGn w t ty e ti ht hti ad c]; rfl
   ·have hbb : len2 * ti.bytes <= 281474976710656 := by rw [Nat.zero_add] at hb; omega
    have hr := run_append_nil (P := P) w t ty e ti zv ht hti hz1 ad len2 c (ZBh g len2) hnl hnews (by omega) (by omega) hbb
    have hge := grownCap_ge w len2 0 e
    obtain ⟨k1, k2⟩ := fresh (grownCap w len2 0 e) ((ZBh g len2).toArray ++ Builtin.zeroCells zv.cells (grownCap w len2 0 e - len2)) (by simpa using hge) (hcapm len2 0 (by omega)) (by
     simp only [Array.size_append, List.size_toArray, size_zeroCells, hz2, hnl, <- Nat.add_mul]
     congr 1; omega) (by
     simp only [Array.toList_append, Nat.zero_add, ZBh, List.nil_append]
     rw [<- hnl]
     exact List.take_left)
    exact ⟨_, _, _, by rw [hr]; simp [adr], fun h => (by cases h), fun _ => by simpa using hge, k1, k2⟩
 ·rcases hx with ⟨rfl, rfl⟩ | ⟨ad, c, rfl, hnew⟩
  ·refine ⟨{ blk := b, off := 0, cap := cap, nil := false }, [b], w, ?_, fun h => (by cases h), fun _ => hlc, ?_, ⟨rfl, rfl, rfl, Nat.le_refl _, fun _ _ _ => rfl, fun b' hb' => ?_⟩⟩
   ·rw [ZD7 w t ty e ti ht hti _ len cap (.inr ⟨_, rfl⟩) hlc]; simp [adr]
   ·refine .inr ⟨rfl, ⟨rfl, rfl⟩, rfl, hlc, hcm, cs, t0, hcs, hcsz, fun i hi => ?_⟩
    have hi' : i < len := by omega
    simp only [hi', if_true]
    exact ⟨(hf i hi').1, (hf i hi').2, fun j hj => hold i hi' j hj⟩
   ·simp at hb'; subst hb'
    exact ⟨(Array.getElem?_eq_some_iff.1 hcs).1, .inl rfl⟩
  ·have hnews : ∀ j u, (ZBh g len2)[j]? = some u -> w.cell? (ad.add j) = some u := fun q u hu => by
    have hq : q < len2 * ti.size := by rw [<- hnl]; exact (List.getElem?_eq_some_iff.1 hu).1
    obtain ⟨i, j, hi, hj, rfl⟩ := split q len2 hq
    rw [hnew i hi j hj, <- hu, ZDd (fun i hi => (hg i hi).1) i j hi hj]
   have holds : ∀ j u, (ZBh f len)[j]? = some u -> cs[j]? = some u := fun q u hu => by
    have hq : q < len * ti.size := by rw [<- hol]; exact (List.getElem?_eq_some_iff.1 hu).1
    obtain ⟨i, j, hi, hj, rfl⟩ := split q len hq
    rw [hold i hi j hj, <- hu, ZDd (fun i hi => (hf i hi).1) i j hi hj]
   by_cases hroom : len + len2 <= cap
   ·have hfit : len * ti.size + (ZBh g len2).length <= cs.size := by rw [hnl, hcsz, <- Nat.add_mul]; exact Nat.mul_le_mul_right _ hroom
    have hr := ZEt (P := P) w t ty e t0 ti ht hti b len cap cs hcs ad len2 c (ZBh g len2) hnl hnews hn1 hroom hfit
    have htake : cs.toList.take (len * ti.size) = ZBh f len := by
     apply List.ext_getElem?
     intro q
     rw [List.getElem?_take]
     split
     ·rename_i hq
      have hq' : q < (ZBh f len).length := by omega
      rw [Array.getElem?_toList, holds q _ (List.getElem?_eq_getElem hq'), List.getElem?_eq_getElem hq']
     ·rw [List.getElem?_eq_none (by omega)]
    refine ⟨{ blk := b, off := 0, cap := cap, nil := false }, [b], w.setRow b (cs.toList.take (len * ti.size) ++ ZBh g len2 ++ cs.toList.drop (len * ti.size + (ZBh g len2).length)).toArray, by rw [hr]; rfl, fun h => (by cases h), fun _ => hroom, ?_, ⟨rfl, rfl, rfl, by rw [ZCu]; exact Nat.le_refl _, fun b' _ hne => setRow_other w b b' _ (fun h => hne (by rw [h])), fun b' hb' => ?_⟩⟩
    ·refine ZGo (l := { blk := b, off := 0, cap := cap, nil := false }) _ t0 (ZBh f len ++ ZBh g len2) rfl ⟨rfl, rfl⟩ hroom hcm (setRow_heap w b cs _ t0 _ hcs) ?_ ?_ hF
     ·simp only [List.size_toArray, List.length_append, List.length_take, List.length_drop, Array.length_toList]
      omega
     ·rw [htake, Nat.add_mul, <- hol, <- hnl, <- List.length_append]
      exact List.take_left
    ·simp at hb'; subst hb'
     exact ⟨by rw [ZCu]; exact (Array.getElem?_eq_some_iff.1 hcs).1, .inl rfl⟩
   ·have hcells : ∀ j u, (ZBh f len)[j]? = some u -> w.cell? ((⟨b, 0, none⟩ : Addr).add j) = some u := fun j u hu => by
     have := holds j u hu
     simp [Addr.add_lit, World.cell?, hcs, this]
    have hr := run_append_grow (P := P) w t ty e ti zv ht hti hz1 ⟨b, 0, none⟩ len cap (ZBh f len) hol hcells ad len2 c (ZBh g len2) hnl hnews (by omega) (by omega) (growslice_fits (by omega) hb)
    have hge := grownCap_ge w (len + len2) cap e
    obtain ⟨k1, k2⟩ := fresh (grownCap w (len + len2) cap e) ((ZBh f len).toArray ++ (ZBh g len2).toArray ++ Builtin.zeroCells zv.cells (grownCap w (len + len2) cap e - (len + len2))) hge (hcapm _ _ hlen2) (by
     simp only [Array.size_append, List.size_toArray, size_zeroCells, hz2, hol, hnl, <- Nat.add_mul]
     congr 1; omega) (by
     simp only [Array.toList_append, List.append_assoc]
     rw [<- List.append_assoc, Nat.add_mul, <- hol, <- hnl, <- List.length_append]
     exact List.take_left)
    exact ⟨_, _, _, by rw [hr]; simp [adr], fun h => (by cases h), fun _ => hge, k1, k2⟩
end
end Go.Sx
