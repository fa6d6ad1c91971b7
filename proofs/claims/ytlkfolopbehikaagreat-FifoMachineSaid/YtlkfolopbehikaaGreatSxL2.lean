/- part -/
import Derived.Test.YtlkfolopbehikaaGreatSxL
import Derived.DeepKeys4
import Derived.Maps.Keyed
set_option linter.unusedSimpArgs false
set_option linter.unusedVariables false
set_option linter.unusedSectionVars false
namespace Go.Sx
open Go
open Go.ChangeMaps (setBlock heap_setBlock_same heap_setBlock_other modify_eq_set)
open Go.MapKept (Stamped)
structure KeyTy (P : Program) (kt : TypeId) (q : KK) : Prop where
 keyed : Maps.Keyed P kt
 lit : ∀ n, keyR q n -> ∃ l, keyOf P kt (keyV q n) = some l
theorem ZOt {q : IntKind} {n : Int} (h : q.min <= n /\ n <= q.max) : (Lit.int q n).wf = true := by
 simp only [Lit.wf, Bool.and_eq_true, decide_eq_true_eq]; exact h
theorem ZGI {q : KK} {n m : Int} (h : keyV q n = keyV q m) : n = m := by
 cases q with
 | i q => cases h; rfl
 | p a b =>
  simp only [keyV, Value.agg.injEq, Array.mk.injEq, List.cons.injEq, Value.int.injEq, true_and, and_true] at h
  obtain ⟨h1, h2⟩ := h
  simp only [klo, h1] at h2
  omega
theorem ZOu {a b : Int} (h : -9223372036854775808 <= b /\ b <= 9223372036854775807) : khi (a * 18446744073709551616 + b) = a := by unfold khi; omega
theorem ZQW {a b : Int} (h : -9223372036854775808 <= b /\ b <= 9223372036854775807) : klo (a * 18446744073709551616 + b) = b := by unfold klo; rw [ZOu h]; omega
theorem ZEM {q : KK} {y : AV} {K : Int -> Prop} (h : keyK q y K) : ∃ n, (∀ ρ, y.at ρ = keyV q n) /\ keyR q n /\ K n /\ ∀ K' : Int -> Prop, K' n -> keyK q y K' := by
 unfold keyK at h
 split at h
 ·rename_i q
  split at h
  ·rename_i q1 n
   split at h
   ·rename_i e
    subst e
    exact ⟨n, fun ρ => rfl, h.1, h.2, fun K' hk => by simp only [keyK, if_true]; exact ⟨h.1, hk⟩⟩
   ·exact h.elim
  ·exact h.elim
 ·rename_i qa qb
  split at h
  ·rename_i q1 a q2 b
   split at h
   ·rename_i e1
    split at h
    ·rename_i e2
     subst e1 e2
     obtain ⟨⟨h1, h2, h3⟩, hK⟩ := h
     refine ⟨_, fun ρ => ?_, ?_, hK, fun K' hk => by simp only [keyK, if_true]; exact ⟨⟨h1, h2, h3⟩, hk⟩⟩
     ·simp only [AV.at, keyV, ZOu h3, ZQW h3, List.map_cons, List.map_nil, LV.at]
     ·simp only [keyR, ZOu h3, ZQW h3]; exact ⟨h1, h2⟩
    ·exact h.elim
   ·exact h.elim
  ·exact h.elim
theorem ZNI {P : Program} {kt : TypeId} {q : KK} (h : ZRI P kt = some q) : KeyTy P kt q := by
 unfold ZRI at h
 split at h
 ·rename_i q1 hu
  simp only [Option.some.injEq] at h; subst h
  exact ⟨Maps.int_keyed hu, fun n hn => ⟨_, Maps.keyOf_int_mk hu (ZOt hn)⟩⟩
 ·rename_i fs hu
  split at h
  ·rename_i f g hfs
   split at h
   ·rename_i a b ha hb
    split at h
    ·rename_i hc
     obtain ⟨⟨c1, c2, c3, c4⟩, ⟨c5, c6, c7⟩, c8, c9, c10, c11⟩ := hc
     simp only [Option.some.injEq] at h; subst h
     refine ⟨Maps.Keyed.of_law (deep_law_laid c10 (m := 2) (by omega) c11 c8 (by rw [hu])), fun n hn => ?_⟩
     obtain ⟨r1, r2⟩ := hn
     obtain ⟨d, hd⟩ : ∃ d, P.types.size = d + 1 := ⟨P.types.size - 1, by have : 0 < P.types.size := Nat.lt_of_le_of_lt (Nat.zero_le _) c11; omega⟩
     have e1 : P.keyLits (d + 1) f.type [.int a (khi n)] = some [.int a (khi n)] := by
      simp [Program.keyLits, ha, ZOt r1]
     have e2 : P.keyLits (d + 1) g.type [.int b (klo n)] = some [.int b (klo n)] := by
      simp [Program.keyLits, hb, ZOt r2]
     have e3 : P.keyLits (P.types.size + 1) kt [.int a (khi n), .int b (klo n)] = some [.int a (khi n), .int b (klo n)] := by
      rw [hd]
      have hall : fs.all (·.name != "_") = true := by
       rw [<- Array.all_toList, hfs]; simp only [List.all_cons, List.all_nil, Bool.and_true, c3, c4]
      rw [Program.keyLits.eq_def]
      simp only [hu]
      rw [if_pos ⟨by simp [c7], hall⟩, hfs]
      simp only [List.mapM_cons, List.mapM_nil, c1, c2, c5, c6]
      simp only [List.drop_zero, List.drop_succ_cons, List.take_succ_cons, List.take_zero]
      simp only [e1, e2]
      rfl
     refine ⟨.string (keyBytes [.int a (khi n), .int b (klo n)]), ?_⟩
     ·unfold keyOf
      simp only [hu]
      have hform : Value.formed P kt (keyV (.p a b) n) = true := by simp [Value.formed, keyV, hu, c7]
      rw [if_pos (by rw [c9, hform]; rfl)]
      show ((P.keyLits (P.types.size + 1) kt [.int a (khi n), .int b (klo n)]).map _) = _
      rw [e3]
      rfl
    ·cases h
   ·cases h
  ·cases h
 ·cases h
theorem ZEN {P : Program} {t : TypeId} {q : KK} {qe : IntKind} (h : ZFo P t = some (q, qe)) : ∃ k e i, P.underlying t = some (.map k e) /\ KeyTy P k q /\ P.underlying e = some (.int qe) /\ P.info? e = some i /\ i.zero = some (.int qe 0) := by
 unfold ZFo at h
 split at h
 ·rename_i k e ht
  split at h
  ·rename_i q1 q2 h1 h2
   split at h
   ·rename_i i hi
    split at h
    ·rename_i q3 x hz
     split at h
     ·rename_i hc
      simp only [Option.some.injEq, Prod.mk.injEq] at h
      obtain ⟨rfl, rfl⟩ := h
      obtain ⟨rfl, rfl⟩ := hc
      exact ⟨k, e, i, ht, ZNI h1, h2, hi, hz⟩
     ·cases h
    ·cases h
   ·cases h
  ·cases h
 ·cases h
theorem ZOv {M : Int -> Option Int} {n : Int} (h : M n = none) : mupd M n none = M := by
 funext k
 unfold mupd
 split
 ·rename_i e; rw [e, h]
 ·rfl
section
variable {P : Program} {w : World} {kt : TypeId} {q : KK} {qe : IntKind} {M : Int -> Option Int} {s : Nat} {o : Option (Int × Nat)} {ρ : Env} {D : Nat -> Prop} {b : Nat}
theorem ZGJ (hk : KeyTy P kt q) {es : Array MapEntry} {clock : Nat} (h3 : Stamped es clock) (h5 : ∀ e ∈ es.toList, ∃ n x, e.key = keyV q n /\ e.val = .int qe x /\ keyR q n /\ M n = some x)
  (h6 : ∀ n x, M n = some x -> ∃ e ∈ es.toList, e.key = keyV q n) {n : Int} (hn : keyR q n) :
  ((Instr.findKey kt (keyV q n) es.toList).run P w = .ok none w /\ M n = none /\ ∀ e ∈ es.toList, e.key ≠ keyV q n) \/
  ∃ j e x, (Instr.findKey kt (keyV q n) es.toList).run P w = .ok (some (j, e.val)) w /\ es.toList[j]? = some e /\ e.key = keyV q n /\ e.val = .int qe x /\ M n = some x := by
 obtain ⟨l, hkey⟩ := hk.lit n hn
 rcases hk.keyed.find w hkey es.toList (fun e he => by
  obtain ⟨m, x, e1, _, e3, _⟩ := h5 e he
  rw [e1]; exact hk.lit m e3) with ⟨h1, h2⟩ | ⟨j, e, h1, h2, h4⟩
 ·refine .inl ⟨h1, ?_, h2⟩
  cases hM : M n with
  | none => rfl
  | some x => obtain ⟨e, he, e1⟩ := h6 n x hM; exact absurd e1 (h2 e he)
 ·obtain ⟨m, x, e1, e2, _, e5⟩ := h5 e (List.mem_of_getElem? h2)
  rw [h4] at e1
  obtain rfl := ZGI e1
  exact .inr ⟨j, e, x, h1, h2, h4, e2, e5⟩
theorem ZCO (hk : KeyTy P kt q) (em : Bool) {n : Int} (hn : keyR q n) : (Instr.checkKey em 10000 kt (keyV q n)).run P w = .ok () w := by
 obtain ⟨l, hkey⟩ := hk.lit n hn
 exact hk.keyed.check w em hkey
theorem ZKA (hk : KeyTy P kt q) {n : Int} (hn : keyR q n) : (Instr.keyThatStays (keyV q n) (keyV q n)).run P w = .ok (keyV q n) w := by
 obtain ⟨l, hkey⟩ := hk.lit n hn
 exact hk.keyed.stays w hkey
theorem ZKB {es : Array MapEntry} {clock : Nat} (h3 : Stamped es clock) {i j : Nat} {x y : MapEntry} (hx : es.toList[i]? = some x) (hy : es.toList[j]? = some y) (hne : i ≠ j) : x.key ≠ y.key := by
 have hp := (MapKept.stamped_iff es clock).1 h3
 have hp := hp.2.2
 rw [List.pairwise_iff_getElem] at hp
 obtain ⟨hi, rfl⟩ := List.getElem?_eq_some_iff.1 hx
 obtain ⟨hj, rfl⟩ := List.getElem?_eq_some_iff.1 hy
 rcases Nat.lt_or_gt_of_ne hne with h | h
 ·exact hp i j hi hj h
 ·exact fun e => hp j i hj hi h e.symm
theorem ZOw (hM : MpAt q qe M s o ρ D b w) {es : Array MapEntry} {clock : Nat} (hb : w.heap[b]? = some (.map es clock)) {j : Nat} {e0 : MapEntry} {n x : Int} (hj : es.toList[j]? = some e0) (hk : e0.key = keyV q n) (f : MapEntry -> MapEntry) (hf : f e0 = { e0 with val := .int qe x })
  {o2 : Option (Int × Nat)} {ρ2 : Env} {D2 : Nat -> Prop} (ho : match o2 with | none => True | some (n2, k) => D2 k /\ n2 = n /\ (e0.born : Int) = ((ρ2 k).off : Int)) :
  MpAt q qe (mupd M n (some x)) s o2 ρ2 D2 b (setBlock w b (.map (es.modify j f) clock)) := by
 obtain ⟨es', clock', h2, h3, h4, h5, h6, h7⟩ := hM
 rw [hb] at h2; cases h2
 have hlist : (es.modify j f).toList = es.toList.set j { e0 with val := .int qe x } := by rw [Array.toList_modify, modify_eq_set _ _ _ _ hj, hf]
 have hjl : j < es.toList.length := (List.getElem?_eq_some_iff.1 hj).1
 have he0 := h5 e0 (List.mem_of_getElem? hj)
 have hnew : { e0 with val := .int qe x } ∈ (es.modify j f).toList := by rw [hlist]; exact List.mem_iff_getElem.2 ⟨j, by simpa using hjl, by simp⟩
 refine ⟨_, _, heap_setBlock_same hb _, ?_, by simpa using h4, fun e he => ?_, fun m y hy => ?_, ?_⟩
 ·have hst := (MapKept.stamped_iff es clock).1 h3
  rw [MapKept.stamped_iff, hlist]
  have hb1 : (es.toList.set j { e0 with val := .int qe x }).map (·.born) = es.toList.map (·.born) := by
   rw [List.map_set]
   apply List.ext_getElem?
   intro i
   rw [List.getElem?_set]
   split
   ·rename_i hij; subst hij
    rw [List.getElem?_map, hj, if_pos (by simpa using hjl)]; rfl
   ·rfl
  have hk1 : (es.toList.set j { e0 with val := .int qe x }).map (·.key) = es.toList.map (·.key) := by
   rw [List.map_set]
   apply List.ext_getElem?
   intro i
   rw [List.getElem?_set]
   split
   ·rename_i hij; subst hij
    rw [List.getElem?_map, hj, if_pos (by simpa using hjl)]; rfl
   ·rfl
  refine ⟨fun y hy => ?_, by rw [hb1]; exact hst.2.1, ?_⟩
  ·have : y.born ∈ (es.toList.set j { e0 with val := .int qe x }).map (·.born) := List.mem_map.2 ⟨y, hy, rfl⟩
   rw [hb1] at this
   obtain ⟨z, hz, hzy⟩ := List.mem_map.1 this
   rw [<- hzy]; exact hst.1 z hz
  ·have h9 := hst.2.2
   rw [<- List.pairwise_map (f := MapEntry.key) (R := fun x y => x ≠ y)] at h9 ⊢
   rw [hk1]; exact h9
 ·rw [hlist] at he
  obtain ⟨i, hi, ex⟩ := List.getElem_of_mem he
  rw [List.getElem_set] at ex
  split at ex
  ·subst ex
   obtain ⟨m, y, e1, e2, e3, e5⟩ := he0
   rw [hk] at e1; obtain rfl := ZGI e1
   exact ⟨n, x, hk, rfl, e3, by simp [mupd]⟩
  ·rename_i hne
   have hi' : i < es.toList.length := by simpa using hi
   have hm : es.toList[i]? = some e := by rw [List.getElem?_eq_getElem hi', ex]
   obtain ⟨m, y, e1, e2, e3, e5⟩ := h5 e (List.mem_of_getElem? hm)
   refine ⟨m, y, e1, e2, e3, ?_⟩
   have hk2 := ZKB h3 hm hj (Ne.symm hne)
   rw [e1, hk] at hk2
   have : m ≠ n := fun e => hk2 (by rw [e])
   simp [mupd, this, e5]
 ·unfold mupd at hy
  split at hy
  ·rename_i hmn; subst hmn; exact ⟨_, hnew, hk⟩
  ·rename_i hmn
   obtain ⟨e, he, hek⟩ := h6 m y hy
   refine ⟨e, ?_, hek⟩
   rw [hlist]
   obtain ⟨i, hi⟩ := List.getElem?_of_mem he
   have hij : i ≠ j := fun h => by subst h; rw [hj] at hi; cases hi; rw [hk] at hek; exact hmn (ZGI hek).symm
   refine List.mem_of_getElem? (i := i) ?_
   rw [List.getElem?_set_ne (Ne.symm hij)]; exact hi
 ·cases o2 with
  | none => trivial
  | some p =>
   obtain ⟨n2, k⟩ := p
   obtain ⟨k1, rfl, k3⟩ := ho
   exact ⟨k1, _, hnew, hk, k3⟩
theorem ZOx (hM : MpAt q qe M s o ρ D b w) {es : Array MapEntry} {clock : Nat} (hb : w.heap[b]? = some (.map es clock)) {n x : Int} (hn : keyR q n) (hno : M n = none) (hk : ∀ e ∈ es.toList, e.key ≠ keyV q n)
  {o2 : Option (Int × Nat)} {ρ2 : Env} {D2 : Nat -> Prop} (ho : match o2 with | none => True | some (n2, k) => D2 k /\ n2 = n /\ (clock : Int) = ((ρ2 k).off : Int)) :
  MpAt q qe (mupd M n (some x)) (s + 1) o2 ρ2 D2 b (setBlock w b (.map (es.push { key := keyV q n, val := .int qe x, born := clock }) (clock + 1))) := by
 obtain ⟨es', clock', h2, h3, h4, h5, h6, h7⟩ := hM
 rw [hb] at h2; cases h2
 have hnew : ({ key := keyV q n, val := .int qe x, born := clock } : MapEntry) ∈ (es.push { key := keyV q n, val := .int qe x, born := clock }).toList := by simp
 refine ⟨_, _, heap_setBlock_same hb _, MapKept.stamped_push h3 hk, by simp [h4], fun e he => ?_, fun m y hy => ?_, ?_⟩
 ·simp only [Array.toList_push, List.mem_append, List.mem_singleton] at he
  rcases he with he | rfl
  ·obtain ⟨m, y, e1, e2, e3, e5⟩ := h5 e he
   refine ⟨m, y, e1, e2, e3, ?_⟩
   have : m ≠ n := fun e => by subst e; rw [hno] at e5; cases e5
   simp [mupd, this, e5]
  ·exact ⟨n, x, rfl, rfl, hn, by simp [mupd]⟩
 ·unfold mupd at hy
  split at hy
  ·rename_i hmn; subst hmn; exact ⟨_, hnew, rfl⟩
  ·obtain ⟨e, he, hek⟩ := h6 m y hy
   exact ⟨e, by simp [he], hek⟩
 ·cases o2 with
  | none => trivial
  | some p =>
   obtain ⟨n2, k⟩ := p
   obtain ⟨k1, rfl, k3⟩ := ho
   exact ⟨k1, _, hnew, rfl, k3⟩
theorem ZSP (hM : MpAt q qe M s o ρ D b w) {es : Array MapEntry} {clock : Nat} (hb : w.heap[b]? = some (.map es clock)) {j : Nat} {e0 : MapEntry} {n : Int} (hj : es.toList[j]? = some e0) (hk : e0.key = keyV q n) :
  MpAt q qe (mupd M n none) (s - 1) none ρ D b (setBlock w b (.map (es.eraseIdxIfInBounds j) clock)) := by
 obtain ⟨es', clock', h2, h3, h4, h5, h6, h7⟩ := hM
 rw [hb] at h2; cases h2
 have hjl : j < es.toList.length := (List.getElem?_eq_some_iff.1 hj).1
 have hjs : j < es.size := by simpa using hjl
 have hlist : (es.eraseIdxIfInBounds j).toList = es.toList.eraseIdx j := by simp [Array.eraseIdxIfInBounds, hjs]
 refine ⟨_, _, heap_setBlock_same hb _, MapKept.stamped_erase h3 j, ?_, fun e he => ?_, fun m y hy => ?_, trivial⟩
 ·rw [<- Array.length_toList, hlist, List.length_eraseIdx, if_pos hjl, Array.length_toList, h4]
 ·rw [hlist] at he
  obtain ⟨i, hne, hi⟩ := List.mem_eraseIdx_iff_getElem?.1 he
  obtain ⟨m, y, e1, e2, e3, e5⟩ := h5 e (List.mem_of_getElem? hi)
  refine ⟨m, y, e1, e2, e3, ?_⟩
  have hk2 := ZKB h3 hi hj hne
  rw [e1, hk] at hk2
  have : m ≠ n := fun e => hk2 (by rw [e])
  simp [mupd, this, e5]
 ·unfold mupd at hy
  split at hy
  ·cases hy
  ·rename_i hmn
   obtain ⟨e, he, hek⟩ := h6 m y hy
   refine ⟨e, ?_, hek⟩
   rw [hlist]
   obtain ⟨i, hi⟩ := List.getElem?_of_mem he
   refine List.mem_eraseIdx_iff_getElem?.2 ⟨i, fun h => ?_, hi⟩
   subst h; rw [hj] at hi; cases hi; rw [hk] at hek; exact hmn (ZGI hek).symm
end
section
variable {G : Ctx} {o : Oper} {a : Act} {r : Regs} {h : Heap} {D : Nat -> Prop} {n : Nat} {ρ : Env} {φ : Nat -> List Nat} {w : World} {K : SV -> Heap -> Nat -> Prop}
theorem ZDq (w : World) (b : Nat) (ob : Obj) : (setBlock w b ob).heap.size = w.heap.size := by simp [setBlock]
theorem GM.mapw (g : GM G h D ρ φ w) {k : Nat} {q : KK} {qe : IntKind} {M : Int -> Option Int} {s : Nat} {oo : Option (Int × Nat)} (hk : hget h k = some (.mp q qe M s oo)) {ob : Obj} {es : Array MapEntry} {clock : Nat} (hb : w.heap[(ρ k).blk]? = some (.map es clock)) {M2 : Int -> Option Int} {s2 : Nat} {o2 : Option (Int × Nat)}
  {D' : Nat -> Prop} {ρ' : Env} (hρ : ∀ k, D k -> ρ' k = ρ k) (hD : ∀ k, D k -> D' k) (hM : MpAt q qe M2 s2 o2 ρ' D' (ρ k).blk (setBlock w (ρ k).blk ob)) :
  GM G ((k, some (.mp q qe M2 s2 o2)) :: h) D' ρ' (fun j => if j = k then [(ρ k).blk] else φ j) (setBlock w (ρ k).blk ob) := by
 obtain ⟨h1, hF, _⟩ := g.hm.at_ k _ hk
 have hkD := g.hm.lt k _ hk
 have hmem : (ρ k).blk ∈ φ k := by rw [hF]; simp
 have hbo := g.ow k _ hk rfl _ hmem
 have hlt := (Array.getElem?_eq_some_iff.1 hb).1
 refine g.put k (.mp q qe M2 s2 o2) [(ρ k).blk] hρ hD (hD _ hkD) (fun k' e' hk' hne b hbm => heap_setBlock_other hb _ fun e => ?_) ⟨by rw [hρ k hkD]; exact h1, by rw [hρ k hkD], by rw [hρ k hkD]; exact hM⟩
  (fun b hbm => by simp at hbm; subst hbm; rw [ZDq]; exact hlt) (fun k' e' hk' hne b hbm hbm' => ?_) (fun _ b hbm => by simp at hbm; subst hbm; exact hbo) ?_ (by rw [ZDq]; exact Nat.le_refl _)
 ·subst e
  exact g.hm.dj k k' _ e' hk hk' (Ne.symm hne) rfl _ hmem hbm
 ·simp at hbm'; subst hbm'
  exact g.hm.dj k k' _ e' hk hk' (Ne.symm hne) rfl _ hmem hbm
 ·refine ⟨by rw [ZDq]; exact g.frm.size, fun b hbs hn => ?_, g.frm.os, g.frm.tape, g.frm.output⟩
  rw [heap_setBlock_other hb _ fun e => ?_]
  ·exact g.frm.blk b hbs hn
  ·subst e
   rcases hbo with hbo | hbo
   ·exact hn hbo
   ·omega
variable (g : GM G h D ρ φ w) (hr : RM r D ρ a)
include g hr
theorem ZRc {t : TypeId} {q : KK} {qe : IntKind} (hn : ¬ D n) (ho : o.op = .makeMap t none) (he : evM q qe .mk r h n K) : Runs G o a h D n ρ w K := by
 simp only [evM] at he
 refine ZFR g hn (.mp q qe (fun _ => none) 0 none) { blk := w.heap.size, off := 0, cap := 0, nil := false } (.map #[] 0) (.o (.l (.mref n))) rfl rfl (fun ρ' hρ => ⟨rfl, rfl, ?_⟩) (fun ρ' hl => .inr ⟨Nat.le_refl _, Nat.lt_succ_self _⟩) he (fun ρ' hl => ?_)
 ·exact ⟨#[], 0, ZBg w _, MapKept.stamped_empty 0, rfl, fun e he => (by simp at he), fun n x hx => (by simp at hx), trivial⟩
 ·simp only [execOp, ho, SV.at, AV.at, LV.at, hl]
  rfl
theorem ZRd {X : Operand} {x : O} {t : TypeId} {q : KK} {qe : IntKind} {args : Array Operand} {ats : Array TypeId} {kt et : TypeId} (ho : o.op = .call { callee := .builtin .len, args := args, argTypes := ats }) (hargs : args.toList = [X]) (hats : ats.toList = [t]) (hx : cO X = some x)
  (ht : G.P.underlying t = some (.map kt et)) (he : evM q qe (.ln x) r h n K) : Runs G o a h D n ρ w K := by
 obtain rfl : args = #[X] := by apply Array.ext'; simpa using hargs
 obtain rfl : ats = #[t] := by apply Array.ext'; simpa using hats
 simp only [evM] at he
 split at he
 ·rename_i k hv
  split at he
  ·rename_i q2 qe2 M s oo hk
   obtain ⟨h1, h2⟩ := ZAF hr hx hv
   obtain ⟨k1, k2, es, clock, hb, _, hs, _⟩ := g.hm.at_ k _ hk
   refine ZAL g (x := sInt _ _) trivial he ?_
   simp only [AV.at, LV.at] at h1
   simp [execOp, ho, resolve, invoke, builtin, h1, Builtin.len_, run_underlying ht, MapKept.run_getObj_map hb, SV.at, AV.at, LV.at, sInt, goInt, hs]
  ·exact he.elim
 ·exact he.elim
theorem ZRe {t : TypeId} {q : KK} {qe : IntKind} {X I' : Operand} {x i : O} (ho : o.op = .lookup t X I' false) (hx : cO X = some x) (hi : cO I' = some i) (hm : ZFo G.P t = some (q, qe)) (he : evM q qe (.lk x i) r h n K) : Runs G o a h D n ρ w K := by
 obtain ⟨kt, et, ti, ht, hkt, het, hti, hz⟩ := ZEN hm
 simp only [evM] at he
 split at he
 ·rename_i k y0 hv1 hv2
  split at he
  ·rename_i q2 qe2 M s oo hk
   split at he
   ·rename_i e1
    split at he
    ·rename_i e2
     ·subst e1 e2
      obtain ⟨nn, hat, hrg, he, _⟩ := ZEM he
      obtain ⟨h1, h2⟩ := ZAF hr hx hv1
      have h3 : a.eval I' = keyV q2 nn := by rw [(ZAF hr hi hv2).1, hat]
      obtain ⟨k1, k2, es, clock, hb, hst, hs, h5, h6, _⟩ := g.hm.at_ k _ hk
      refine ZAL g (x := sInt _ _) trivial he ?_
      simp only [AV.at, LV.at] at h1
      have hz0 : (zeroValue et).run G.P w = .ok (.int qe2 0) w := ZBm hti hz w
      rcases ZGJ (P := G.P) (w := w) hkt hst h5 h6 hrg with ⟨f1, f2, _⟩ | ⟨j, e, y, f1, f2, f3, f4, f5⟩
      ·simp [execOp, ho, h1, h3, Instr.lookup, run_underlying ht, MapKept.run_getObj_map hb, ZCO (P := G.P) (w := w) hkt _ hrg, f1, f2, hz0, SV.at, AV.at, LV.at, sInt]
      ·simp [execOp, ho, h1, h3, Instr.lookup, run_underlying ht, MapKept.run_getObj_map hb, ZCO (P := G.P) (w := w) hkt _ hrg, f1, f4, f5, SV.at, AV.at, LV.at, sInt]
    ·exact he.elim
   ·exact he.elim
  ·exact he.elim
 ·exact he.elim
theorem ZRf {t : TypeId} {q : KK} {qe : IntKind} {X I' V : Operand} {x i v : O} (ho : o.op = .mapUpdate t X I' V) (hx : cO X = some x) (hi : cO I' = some i) (hv : cO V = some v) (hm : ZFo G.P t = some (q, qe)) (he : evM q qe (.up x i v) r h n K) : Runs G o a h D n ρ w K := by
 obtain ⟨kt, et, ti, ht, hkt, het, hti, hz⟩ := ZEN hm
 simp only [evM] at he
 split at he
 ·rename_i k y0 qe1 y hv1 hv2 hv3
  split at he
  ·rename_i q2 qe2 M s oo hk
   split at he
   ·rename_i e1
    split at he
    ·rename_i e2
     split at he
     ·rename_i e3
      ·subst e1 e2 e3
       obtain ⟨nn, hat, hrg, he, _⟩ := ZEM he
       obtain ⟨h1, h2⟩ := ZAF hr hx hv1
       have h3 : a.eval I' = keyV q2 nn := by rw [(ZAF hr hi hv2).1, hat]
       have h4 := ZAU g hr hv hv3
       obtain ⟨k1, k2, hMp⟩ := g.hm.at_ k _ hk
       obtain ⟨es, clock, hb, hst, hs, h5, h6, _⟩ := id hMp
       simp only [AV.at, LV.at] at h1
       rcases ZGJ (P := G.P) (w := w) hkt hst h5 h6 hrg with ⟨f1, f2, f3⟩ | ⟨j, e, y0, f1, f2, f3, f4, f5⟩
       ·refine ⟨ZBe, _, n, ρ, _, _, he, Nat.le_refl _, Nat.le_succ _, fun _ _ => rfl, g.mapw hk hb (fun _ _ => rfl) (ZBf D n) (ob := .map (es.push ⟨keyV q2 nn, .int qe1 y, clock⟩) (clock + 1)) (s2 := msz M nn s) (o2 := none) ?_, trivial, .inr ⟨?_, rfl⟩⟩
        rotate_left
        ·simp [execOp, ho, h1, h3, h4, Instr.mapUpdate, run_underlying ht, MapKept.run_getObj_map hb, ZCO (P := G.P) (w := w) hkt _ hrg, f1, MapKept.run_setObj_map _ hb, setBlock]
        ·rw [show msz M nn s = s + 1 by simp [msz, f2]]
         exact ZOx hMp hb hrg f2 f3 trivial
       ·have hjs : es[j]? = some e := by simpa using f2
        refine ⟨ZBe, _, n, ρ, _, _, he, Nat.le_refl _, Nat.le_succ _, fun _ _ => rfl, g.mapw hk hb (fun _ _ => rfl) (ZBf D n) (ob := .map (es.modify j fun e => { e with key := keyV q2 nn, val := .int qe1 y }) clock) (s2 := msz M nn s) (o2 := none) ?_, trivial, .inr ⟨?_, rfl⟩⟩
        rotate_left
        ·simp [execOp, ho, h1, h3, h4, Instr.mapUpdate, run_underlying ht, MapKept.run_getObj_map hb, ZCO (P := G.P) (w := w) hkt _ hrg, f1, hjs, f3, ZKA (P := G.P) (w := w) hkt hrg, MapKept.run_setObj_map _ hb, setBlock]
        ·rw [show msz M nn s = s by simp [msz, f5]]
         exact ZOw hMp hb f2 f3 _ (by rw [<- f3]) trivial
     ·exact he.elim
    ·exact he.elim
   ·exact he.elim
  ·exact he.elim
 ·exact he.elim
theorem ZRg {t t2 : TypeId} {q : KK} {qe : IntKind} {X I' : Operand} {x i : O} {args : Array Operand} {ats : Array TypeId} (ho : o.op = .call { callee := .builtin .delete, args := args, argTypes := ats }) (hargs : args.toList = [X, I']) (hats : ats.toList = [t, t2]) (hx : cO X = some x) (hi : cO I' = some i)
  (hm : ZFo G.P t = some (q, qe)) (he : evM q qe (.dl x i) r h n K) : Runs G o a h D n ρ w K := by
 obtain rfl : args = #[X, I'] := by apply Array.ext'; simpa using hargs
 obtain rfl : ats = #[t, t2] := by apply Array.ext'; simpa using hats
 obtain ⟨kt, et, ti, ht, hkt, het, hti, hz⟩ := ZEN hm
 simp only [evM] at he
 split at he
 ·rename_i k y0 hv1 hv2
  split at he
  ·rename_i q2 qe2 M s oo hk
   split at he
   ·rename_i e1
    ·subst e1
     obtain ⟨nn, hat, hrg, he, _⟩ := ZEM he
     obtain ⟨h1, h2⟩ := ZAF hr hx hv1
     have h3 : a.eval I' = keyV q2 nn := by rw [(ZAF hr hi hv2).1, hat]
     obtain ⟨k1, k2, hMp⟩ := g.hm.at_ k _ hk
     obtain ⟨es, clock, hb, hst, hs, h5, h6, _⟩ := id hMp
     simp only [AV.at, LV.at] at h1
     rcases ZGJ (P := G.P) (w := w) hkt hst h5 h6 hrg with ⟨f1, f2, f3⟩ | ⟨j, e, y0, f1, f2, f3, f4, f5⟩
     ·refine ⟨.t [], _, n, ρ, _, _, he, Nat.le_refl _, Nat.le_succ _, fun _ _ => rfl, g.mapw hk hb (fun _ _ => rfl) (ZBf D n) (ob := .map es clock) (s2 := mszd M nn s) (o2 := none) ?_, fun x hx => (by cases hx), .inl ?_⟩
      rotate_left
      ·simp [execOp, ho, resolve, invoke, builtin, h1, h3, Builtin.delete_, run_underlying ht, MapKept.run_getObj_map hb, ZCO (P := G.P) (w := w) hkt _ hrg, f1, MapKept.run_setObj_map _ hb, setBlock, SV.at]
      ·rw [show mszd M nn s = s by simp [mszd, f2], ZOv f2]
       refine ⟨es, clock, heap_setBlock_same hb _, hst, hs, h5, h6, trivial⟩
     ·refine ⟨.t [], _, n, ρ, _, _, he, Nat.le_refl _, Nat.le_succ _, fun _ _ => rfl, g.mapw hk hb (fun _ _ => rfl) (ZBf D n) (ob := .map (es.eraseIdxIfInBounds j) clock) (s2 := mszd M nn s) (o2 := none) ?_, fun x hx => (by cases hx), .inl ?_⟩
      rotate_left
      ·simp [execOp, ho, resolve, invoke, builtin, h1, h3, Builtin.delete_, run_underlying ht, MapKept.run_getObj_map hb, ZCO (P := G.P) (w := w) hkt _ hrg, f1, MapKept.run_setObj_map _ hb, setBlock, SV.at]
      ·rw [show mszd M nn s = s - 1 by simp [mszd, f5]]
       exact ZSP hMp hb f2 f3
   ·exact he.elim
  ·exact he.elim
 ·exact he.elim
theorem ZRh {t : TypeId} {q : KK} {qe : IntKind} {X I' : Operand} {x i : O} (hn : ¬ D n) (ho : o.op = .mapEntry t X I') (hx : cO X = some x) (hi : cO I' = some i) (hm : ZFo G.P t = some (q, qe)) (he : evM q qe (.en x i) r h n K) : Runs G o a h D n ρ w K := by
 obtain ⟨kt, et, ti, ht, hkt, het, hti, hz⟩ := ZEN hm
 simp only [evM] at he
 split at he
 ·rename_i k y0 hv1 hv2
  split at he
  ·rename_i q2 qe2 M s oo hk
   split at he
   ·rename_i e1
    split at he
    ·rename_i e2
     ·subst e1 e2
      obtain ⟨nn, hat, hrg, he, _⟩ := ZEM he
      obtain ⟨h1, h2⟩ := ZAF hr hx hv1
      have h3 : a.eval I' = keyV q2 nn := by rw [(ZAF hr hi hv2).1, hat]
      obtain ⟨k1, k2, hMp⟩ := g.hm.at_ k _ hk
      obtain ⟨es, clock, hb, hst, hs, h5, h6, _⟩ := id hMp
      simp only [AV.at, LV.at] at h1
      have hz0 : (zeroValue et).run G.P w = .ok (.int qe2 0) w := ZBm hti hz w
      have env : ∀ born : Nat, ∃ ρ' : Env, (∀ k, D k -> ρ' k = ρ k) /\ (ρ' n).off = born := fun born =>
       ⟨fun k => if k = n then { blk := 0, off := born, cap := 0, nil := true } else ρ k, fun k hk => by
        have : k ≠ n := fun e => hn (e ▸ hk)
        simp [this], by simp⟩
      have hDn : grow D n (n + 1) n := .inr ⟨Nat.le_refl _, Nat.lt_succ_self _⟩
      have hup : ∀ k, D k -> grow D n (n + 1) k := fun k hk => .inl hk
      rcases ZGJ (P := G.P) (w := w) hkt hst h5 h6 hrg with ⟨f1, f2, f3⟩ | ⟨j, e, y0, f1, f2, f3, f4, f5⟩
      ·obtain ⟨ρ', hρ, hρn⟩ := env clock
       refine ⟨_, _, n + 1, ρ', _, _, he, Nat.le_succ _, Nat.le_refl _, hρ, g.mapw hk hb hρ hup (ob := .map (es.push ⟨keyV q2 nn, .int qe2 0, clock⟩) (clock + 1)) (s2 := msz M nn s) ?_, fun x hx => ?_, .inl ?_⟩
       rotate_left
       ·simp only [List.mem_cons, List.not_mem_nil, or_false] at hx
        rcases hx with rfl | rfl
        ·trivial
        ·exact hDn
       rotate_left
       ·rw [show msz M nn s = s + 1 by simp [msz, f2], show (M nn).getD 0 = 0 by rw [f2]; rfl]
        exact ZOx (o2 := some (nn, n)) (ρ2 := ρ') (D2 := grow D n (n + 1)) hMp hb hrg f2 f3 ⟨hDn, rfl, by rw [hρn]⟩
       ·simp [execOp, ho, h1, h3, Instr.mapEntry, run_underlying ht, MapKept.run_getObj_map hb, ZCO (P := G.P) (w := w) hkt _ hrg, f1, hz0, MapKept.run_setObj_map _ hb, setBlock, SV.at, AV.at, LV.at, goInt, hρn, f2]
      ·have hjs : es[j]? = some e := by simpa using f2
       obtain ⟨ρ', hρ, hρn⟩ := env e.born
       refine ⟨_, _, n + 1, ρ', _, _, he, Nat.le_succ _, Nat.le_refl _, hρ, g.mapw hk hb hρ hup (s2 := msz M nn s) (ob := .map (es.modify j fun e => { e with key := keyV q2 nn }) clock) ?_, fun x hx => ?_, .inl ?_⟩
       rotate_left
       ·simp only [List.mem_cons, List.not_mem_nil, or_false] at hx
        rcases hx with rfl | rfl
        ·trivial
        ·exact hDn
       rotate_left
       ·rw [show msz M nn s = s by simp [msz, f5], f5]
        exact ZOw (o2 := some (nn, n)) (ρ2 := ρ') (D2 := grow D n (n + 1)) hMp hb f2 f3 _ (by rw [<- f3, Option.getD_some, <- f4]) ⟨hDn, rfl, by rw [hρn]⟩
       ·simp [execOp, ho, h1, h3, Instr.mapEntry, run_underlying ht, MapKept.run_getObj_map hb, ZCO (P := G.P) (w := w) hkt _ hrg, f1, hjs, f3, f4, ZKA (P := G.P) (w := w) hkt hrg, MapKept.run_setObj_map _ hb, setBlock, SV.at, AV.at, LV.at, goInt, hρn, f5]
    ·exact he.elim
   ·exact he.elim
  ·exact he.elim
 ·exact he.elim
theorem ZRi {t : TypeId} {q : KK} {qe : IntKind} {X S V : Operand} {x st v : O} (ho : o.op = .entryStore t X S V) (hx : cO X = some x) (hs : cO S = some st) (hv : cO V = some v) (he : evM q qe (.st x st v) r h n K) : Runs G o a h D n ρ w K := by
 simp only [evM] at he
 split at he
 ·rename_i k j qe1 y hv1 hv2 hv3
  split at he
  ·rename_i q2 qe2 M s nn j2 hk
   split at he
   ·rename_i hj
    obtain rfl := Nat.eq_of_beq_eq_true hj
    split at he
    ·rename_i e1
     split at he
     ·rename_i e2
      split at he
      ·rename_i e3
       subst e1 e2 e3
       obtain ⟨h1, h2⟩ := ZAF hr hx hv1
       obtain ⟨h3, h3'⟩ := ZAF hr hs hv2
       have h4 := ZAU g hr hv hv3
       obtain ⟨k1, k2, hMp⟩ := g.hm.at_ k _ hk
       obtain ⟨es, clock, hb, hst, hsz, h5, h6, hjD, e0, he0, hek, heb⟩ := id hMp
       simp only [AV.at, LV.at] at h1 h3
       obtain ⟨i, hi⟩ := List.getElem?_of_mem he0
       have hil : i < es.toList.length := (List.getElem?_eq_some_iff.1 hi).1
       have his : i < es.size := by simpa using hil
       have hib : es[i]? = some e0 := by simpa using hi
       have hfind : es.findIdx? (fun e => ((e.born : Int) == ((ρ j).off : Int))) = some i := by
        rw [Array.findIdx?_eq_some_iff_getElem]
        have hei : es[i] = e0 := by rw [Array.getElem?_eq_getElem his] at hib; simpa using hib
        refine ⟨his, by rw [hei]; simpa using heb, fun i2 hi2 => ?_⟩
        have hnd := ((MapKept.stamped_iff es clock).1 hst).2.1
        intro hbb
        have hbb : ((es[i2]'(by omega)).born : Int) = ((ρ j).off : Int) := by simpa using hbb
        have : (es[i2]'(by omega)).born = e0.born := by omega
        have h9 := (List.pairwise_iff_getElem.1 hnd) i2 i (by simp; omega) (by simpa using his) hi2
        apply h9
        simp only [List.getElem_map, Array.getElem_toList]
        rw [this, hei]
       refine ⟨ZBe, _, n, ρ, _, _, he, Nat.le_refl _, Nat.le_succ _, fun _ _ => rfl, g.mapw hk hb (fun _ _ => rfl) (ZBf D n) (ob := .map (es.modify i fun e => { e with val := .int qe1 y }) clock) (s2 := s) (o2 := none) ?_, trivial, .inr ⟨?_, rfl⟩⟩
       rotate_left
       ·simp [execOp, ho, h1, h3, h4, Instr.entryStore, MapKept.run_getObj_map hb, asInt, asIntOf, hfind, MapKept.run_setObj_map _ hb, setBlock]
       ·exact ZOw hMp hb hi hek _ rfl trivial
      ·exact he.elim
     ·exact he.elim
    ·exact he.elim
   ·exact he.elim
  ·exact he.elim
 ·exact he.elim
end
end Go.Sx
