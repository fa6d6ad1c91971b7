/- AheadTells, AheadTurns: the keys of a map, in order. -/
import Derived.Test.YtfkhaicghoiijacBa
set_option linter.unusedSimpArgs false
set_option linter.unusedVariables false
namespace Go.Proofs.Ytfkhaicghoiijac
open Go Go.Sx

/-- What is known of a map's keys. -/
theorem keys_told {w : World} {b : Nat} {M : Int → Option Int} {s : Nat} {ρ : Env} {D : Nat → Prop} (hM : MpAt .i64 .i64 M s none ρ D b w) (hs : s ≤ 1000) :
    ∃ (D0 : DataW Unit) (R : Value → Option (DataW Unit × List MemPlace)), w.ownsMap Try.prog 3 R b s D0 ∧ Maps.size D0 = s ∧ (intKeys D0).Nodup ∧ ∀ x, x ∈ intKeys D0 ↔ (M x).isSome = true := by
  obtain ⟨es, clock, h1, h2, h3, h4, h5, _⟩ := hM
  have hk : Try.prog.underlying 3 = some (.int .i64) := by kernel_rfl
  let R : Value → Option (DataW Unit × List MemPlace) := fun _ => some (.nil, [])
  have hrd : ∀ e ∈ es.toList, ∃ n, e.key = .int .i64 n ∧ (M n).isSome = true ∧ WideElems.rd Try.prog 3 R e = some (.int .i64 n, .nil) := fun e he => by
    obtain ⟨n, x, e1, e2, e3, e4, e5⟩ := h4 e he
    refine ⟨n, e1, by rw [e5]; rfl, ?_⟩
    have := Maps.keyOf_int_mk (P := Try.prog) hk (a := n) (wf_int ⟨e3, e4⟩)
    simp only [WideElems.rd, e1, this, R, Option.bind_some, Option.map_some]
  have F : WideElems.Fit Try.prog 3 R es clock := ⟨by unfold maxLen; omega, h2, fun e he => by obtain ⟨n, _, _, h⟩ := hrd e he; exact ⟨_, h⟩⟩
  have hown := World.ownsMap_of_fit h1 F (fun _ _ _ h => h)
  rw [h3] at hown
  have hkey : ∀ e ∈ es.toList, ∀ n, WideElems.rd Try.prog 3 R e = some (.int .i64 n, .nil) → ((fun p : Lit × DataW Unit => Go.intOf p.1) ∘ WideElems.rg Try.prog 3 R) e = n := fun e he n h => by
    simp only [Function.comp, WideElems.rg_of h, Go.intOf]
  have hperm : (intKeys (.map ((es.toList.map (WideElems.rg Try.prog 3 R)).foldr DataW.insert []))).Perm ((es.toList.map (WideElems.rg Try.prog 3 R)).map fun p => Go.intOf p.1) := (WideShapes.sorted_perm _).map _
  have hnd : ((es.toList.map (WideElems.rg Try.prog 3 R)).map fun p => Go.intOf p.1).Nodup := by
    rw [List.map_map]
    refine List.pairwise_map.2 ((List.pairwise_map.1 h2.2.2).imp_of_mem fun {p q} hp hq hne he => hne ?_)
    obtain ⟨n1, a1, _, a3⟩ := hrd p hp
    obtain ⟨n2, b1, _, b3⟩ := hrd q hq
    rw [hkey p hp n1 a3, hkey q hq n2 b3] at he
    rw [a1, b1, he]
  refine ⟨_, R, hown, ?_, ?_, fun x => ?_⟩
  · rw [Maps.size_eq, length_sorted]; simp [h3]
  · exact hperm.nodup_iff.2 hnd
  · rw [hperm.mem_iff, List.map_map, List.mem_map]
    constructor
    · rintro ⟨e, he, rfl⟩
      obtain ⟨n, e1, e2, e3⟩ := hrd e he
      rw [hkey e he n e3]; exact e2
    · intro hx
      obtain ⟨v, hv⟩ := Option.isSome_iff_exists.1 hx
      obtain ⟨e, he, e1⟩ := h5 x v hv
      obtain ⟨n, e2, e3, e4⟩ := hrd e he
      rw [e1] at e2; cases e2
      exact ⟨e, he, hkey e he x e4⟩
theorem sort_told {ss L : List Int} {D0 : DataW Unit} {M : Int → Option Int} (hp : ss.Perm (intKeys D0)) (hnd : (intKeys D0).Nodup) (hk : ∀ x, x ∈ intKeys D0 ↔ (M x).isSome = true) (hL1 : L.Pairwise (· < ·)) (hL2 : ∀ x, x ∈ L ↔ (M x).isSome = true) :
    ss.mergeSort (fun x y => decide (x ≤ y)) = L ∧ ss.length = L.length := by
  have h1 : ss.Perm L := (List.perm_ext_iff_of_nodup (hp.nodup_iff.2 hnd) (hL1.imp fun {a b} h => by omega)).2 fun x => by rw [hp.mem_iff, hk, hL2]
  refine ⟨?_, h1.length_eq⟩
  rw [mergeSort_of_perm_i h1]
  exact List.mergeSort_of_pairwise (hL1.imp fun {a b} h => by simp only [leI, decide_eq_true_eq]; omega)
theorem sorted_spec (M : Int → Option Int) (s : Nat) (hs : s ≤ 1000) (L : List Int) (hL1 : L.Pairwise (· < ·)) (hL2 : ∀ x, x ∈ L ↔ (M x).isSome = true) :
    FSpec Try.prog 15 [(0, some (.mp .i64 .i64 M s none)), (1, some (.st [.mref 0]))] 2 [.l (.c 20 [1])] fun x h n =>
      (x = .o (.l (.s 2 1 0 L.length 0)) ∧ n = 3 ∧ h = [(2, some (.ar 1 L.length (intsZ L)))]) ∨ (L = [] ∧ x = .o (.l (.v (.slice none 0 0))) ∧ n = 2 ∧ h = []) := by
  refine ⟨by kernel_rfl, fun ρ φ w hm hok => ?_⟩
  obtain ⟨m1, m2, m3⟩ := hm.at_ 0 _ rfl
  obtain ⟨p1, ⟨p2, p3⟩, p4, ⟨t, p5⟩, p6⟩ := hm.at_ 1 _ rfl
  obtain ⟨D0, R, hown, hsz, hnd, hk⟩ := keys_told m3 hs
  have hcell : w.cell? ⟨(ρ 1).blk, 0, none⟩ = some (.map (some (ρ 0).blk)) := by
    simp only [World.cell?, p5]; rfl
  have hlt : (ρ 1).blk < w.heap.size := (Array.getElem?_eq_some_iff.1 p5).1
  have ha : (([.l (.c 20 [1])] : List AV).map (AV.at ρ)).toArray = #[.func (.func 20) #[] #[.pointer (some ⟨(ρ 1).blk, 0, none⟩)]] := by
    simp [AV.at, LV.at, adr, p2, p3]
  rw [ha]
  refine (Try.sorted_keys (ρ 1).blk (ρ 0).blk s D0 R w hlt hcell hown (by rw [hsz]; unfold maxLen; omega) (by rw [hsz]; omega)).mono fun e w' ⟨v, ss, he, hp, hrow, hnil, hb⟩ => ?_
  obtain ⟨hL, hlen⟩ := sort_told hp hnd hk hL1 hL2
  have hfr : Frm w (Own [(0, some (.mp .i64 .i64 M s none)), (1, some (.st [.mref 0]))] φ) w' := ⟨hb.size, fun b hb' _ => hb.block b hb', hb.os, hb.tape, hb.output⟩
  rcases hrow.2 with ⟨hv, hl0⟩ | ⟨g, cap, cur, hv, hg, r1, r2, r3, r4, r5⟩
  · have hLe : L = [] := List.eq_nil_of_length_eq_zero (by omega)
    refine ⟨.o (.l (.v (.slice none 0 0))), [], 2, ρ, φ, by rw [he, hv]; rfl, .inr ⟨hLe, rfl, rfl, rfl⟩, Nat.le_refl _, fun _ _ => rfl, ⟨fun k e hk => by simp [hget] at hk, fun k e hk => by simp [hget] at hk, fun k k' e e' hk => by simp [hget] at hk, fun k e hk => by simp [hget] at hk⟩, trivial, hfr, fun k e hk => by simp [hget] at hk⟩
  · rw [hlen] at r2 r5 hv
    have one : ∀ k e, hget [(2, some (Ent.ar 1 L.length (intsZ L)))] k = some e → k = 2 ∧ e = .ar 1 L.length (intsZ L) := fun k e hk => by
      rw [hget_cons] at hk
      split at hk
      · rename_i h; cases hk; exact ⟨h.symm, rfl⟩
      · simp [hget] at hk
    refine ⟨.o (.l (.s 2 1 0 L.length 0)), [(2, some (.ar 1 L.length (intsZ L)))], 3, fun k => if k = 2 then { blk := g, off := 0, cap := cap, nil := false } else ρ k, fun k => if k = 2 then [g] else φ k, ?_, .inl ⟨rfl, rfl, rfl⟩, by omega, fun k hk => by simp [Nat.ne_of_lt hk], ⟨fun k e hk => ?_, fun k e hk => ?_, fun k k' e e' hk hk' hkk => ?_, fun k e hk b hb' => ?_⟩, ?_, hfr, fun k e hk ho b hb' => ?_⟩
    · rw [he, hv]; simp [SV.at, AV.at, LV.at, adr, dof]
    · obtain ⟨rfl, rfl⟩ := one k e hk
      simp only [if_true]
      refine .inr ⟨rfl, ⟨rfl, rfl⟩, rfl, r2, r3, cur, 3, r1, r4, fun i hi => ⟨rfl, fun x hx => ?_, fun j hj => ?_⟩⟩
      · simp [intsZ] at hx; subst hx; rfl
      · obtain rfl : j = 0 := by omega
        rw [hL, Nat.mul_one] at r5
        have h7 : (cur.toList.take L.length)[i]? = (L.map encZ)[i]? := by rw [r5]
        rw [List.getElem?_take, if_pos hi, Array.getElem?_toList] at h7
        simp only [Nat.mul_one, Nat.add_zero, h7, intsZ]
        simp [hi]
    · obtain ⟨rfl, rfl⟩ := one k e hk; exact Nat.lt_succ_self 2
    · obtain ⟨rfl, rfl⟩ := one k e hk
      obtain ⟨rfl, rfl⟩ := one k' e' hk'
      exact absurd rfl hkk
    · obtain ⟨rfl, rfl⟩ := one k e hk
      simp only [if_true, List.mem_singleton] at hb'
      subst hb'
      exact (Array.getElem?_eq_some_iff.1 r1).1
    · exact ⟨Nat.lt_succ_self 2, fun h => by simp at h, fun _ => ⟨by simp; exact r2, .inl (dof0 _ _), Nat.le_refl _⟩⟩
    · obtain ⟨rfl, rfl⟩ := one k e hk
      simp only [if_true, List.mem_singleton] at hb'
      subst hb'
      exact .inr hg
end Go.Proofs.Ytfkhaicghoiijac
