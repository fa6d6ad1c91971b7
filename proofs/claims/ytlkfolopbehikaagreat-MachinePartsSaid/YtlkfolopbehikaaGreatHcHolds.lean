/- MachineParts holds: events in two runs, one behind the other, do what they do in one. No condition beyond the given statement's own. -/
import Derived.Test.YtlkfolopbehikaaGreatRows
import Derived.Test.YtlkfolopbehikaaGreatSxV
import Derived.Test.YtlkfolopbehikaaGreatMc
namespace Go.Proofs.YtlkfolopbehikaaGreat
open Go Go.Sx
theorem ZGF : (Rows.machinePartsRow.inPlace == Tryz.prog.inPlace 7) = true := by kernel_rfl
theorem ZGG : (Rows.machinePartsRow.unfollowed == Tryz.prog.unfollowed 7) = true := by kernel_rfl
theorem ZGH : (Rows.machinePartsRow.recurses == Tryz.prog.recurses 7) = true := by kernel_rfl
theorem ZGI : (Rows.machinePartsRow.named == Tryz.prog.varsNamed 7) = true := by kernel_rfl
theorem ZGJ : laidOutB Tryz.prog = true := by kernel_rfl
theorem ZGK : mapsRowed Tryz.prog = true := by kernel_rfl
theorem ZGL : Tryz.prog.funcNamed Rows.machinePartsRow.func = some 7 := by kernel_rfl
theorem ZGM : joinedFacts Tryz.prog 7 Tryz.f7 Rows.machinePartsSpec Rows.machinePartsRow = true := by
 unfold joinedFacts
 rw [ZGF, ZGG, ZGH, ZGI, ZGJ, ZGK]
 kernel_rfl
theorem ZEb (os : Os) (started : os.Started) (H : Type) (enc : TypeId × Value -> H) :
  ReturnsInHanded {} Tryz.checked os 7 .any (Rows.machinePartsSpec.pre6 enc Tryz.prog Tryz.f7 Rows.machinePartsRow.domain false) (Rows.machinePartsSpec.post enc Tryz.prog Tryz.f7 false true false false) :=
 ZPK (C := Tryz.checked) 7 4 (by kernel_rfl) started (by kernel_rfl) (by kernel_rfl) Tryz.func7
  (ChangeSpec.witness6 (enc := enc) (C := Tryz.checked) false ⟨#[], #[.agg #[.int .i64 0, .slice none 0 0, .int .u32 0, .int .i64 0, .int .i64 0, .int .i64 0, .int .i64 0, .int .i64 0], .slice none 0 0, .int .u16 0], []⟩ 8 (by kernel_rfl) (by kernel_rfl) (by kernel_rfl) (by kernel_rfl))
  rfl (by kernel_rfl) (by kernel_rfl) (fun ds h => by match ds, h with | [_, _, _], _ => rfl) (by kernel_rfl) machineParts_law rfl
theorem machineParts_holds : Rows.MachinePartsSaid :=
 OpenClaim.holds_of_wide 7 Tryz.f7 rfl rfl rfl rfl rfl rfl rfl ⟨rfl, rfl, rfl, rfl, rfl⟩ rfl rfl rfl rfl rfl ZGL Tryz.func7 ZGM
  (of_decide_eq_true (by kernel_rfl)) (by unfold Func.isWrapper; first | (rw [if_pos (by decide +kernel)]; kernel_rfl) | (rw [if_neg (by decide +kernel)]; exact ⟨rfl, rfl⟩))
  (fun os started H enc _ => ZEb os started H enc)
#print axioms machineParts_holds
end Go.Proofs.YtlkfolopbehikaaGreat
