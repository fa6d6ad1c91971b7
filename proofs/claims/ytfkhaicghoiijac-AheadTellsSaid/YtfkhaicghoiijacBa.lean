/- AheadTells, AheadTurns: slices.Sorted over a map's keys, by the kit's contract. -/
import Derived.Test.YtfkhaicghoiijacAr
import Derived.Shelf.SlIterI.Sorted
import Derived.Shelf.SortM.Plain
import Derived.Shelf.SortM.SortNone
import Derived.Ground.GgzProg
import Derived.Ground.SlgmProg
set_option linter.unusedSimpArgs false
set_option linter.unusedVariables false
namespace Go.Proofs
open Go.RowKit Go.Maps Go.Sort Go.Shelf

shelf_lay_g SlLaysZI.n7 Ggz 7 at Try 16 as Try.keysA
shelf_lay_g SlLaysZI.n6 Ggz 6 at Try 15 as Try.sortedA
shelf_lay_g SlLaysM.n5 Slgm 5 at Try 19 as Try.sortA
/-- slices.Sort's two contracts, at the fence that asks nothing. -/
theorem Try.sortsA (m : Nat) : AnyZI.SortsIn Try.prog Try.sortedA_ren Fence.wide m :=
  ⟨fun blk off cap ss W hH hblk hsz => callsIn_wide.2 (AnyM.slices_Sort_int Try.sortA blk off cap ss W hH hblk hsz),
   fun p cap W => callsIn_wide.2 (AnyM.slices_Sort_int_none Try.sortA p cap W)⟩
/-- slices.Sorted over the keys of a map: a new row. -/
theorem Try.sorted_keys {H : Type} (Bm b nn : Nat) (D0 : DataW H) (R : Value → Option (DataW H × List MemPlace)) (w : World) (hBm : Bm < w.heap.size) (hm : w.cell? ⟨Bm, 0, none⟩ = some (.map (some b))) (hown : w.ownsMap Try.prog 3 R b nn D0) (hmax : Maps.size D0 ≤ maxLen) (hbytes : Maps.size D0 * 8 ≤ 140737488355328) :
    Calls Try.prog 15 #[.func (.func 20) #[] #[.pointer (some ⟨Bm, 0, none⟩)]] w fun e w' => ∃ (v : Value) (ss : List Int), e = .returned v ∧ ss.Perm (intKeys D0) ∧
      w'.ownsRow w.heap.size 3 1 v ss.length ((ss.mergeSort (fun x y => decide (x ≤ y))).map encZ) ∧ (v = .slice none 0 0 ↔ ss = []) ∧ Below w.heap.size w w' := by
  refine (callsIn_wide (n := 6)).1 ?_
  have hseq : SeqGives Fence.wide 3 Try.prog 20 #[.pointer (some ⟨Bm, 0, none⟩)] encZ (fun ss => ss.Perm (intKeys D0)) (Maps.size D0) w :=
    AnyZI.keys_gives (ρ := Try.keysA_ren) { Try.keysA with } Fence.wide _ trivial rfl (by omega) Bm b nn D0 _ hBm hm hown
  have cS := AnyZI.sorted_in Try.sortedA Fence.wide 6 trivial trivial trivial trivial rfl (by omega) (Try.sortsA _) (enters_of Try.func19 (by kernel_rfl) rfl) 20 #[.pointer (some ⟨Bm, 0, none⟩)] trivial (enters_of Try.func20 (by kernel_rfl) rfl) _ _ hmax hbytes _ hseq
  exact cS
end Go.Proofs
