/- MachineIdle holds: an idle event changes no word, no clock and no trace; nobody unlocks what is not held. No condition beyond the given statement's own. -/
import Derived.Test.YtlkfolopbehikaaGreatRows
import Derived.Test.YtlkfolopbehikaaGreatSxV
import Derived.Test.YtlkfolopbehikaaGreatMc
namespace Go.Proofs.YtlkfolopbehikaaGreat
open Go Go.Sx
theorem ZGx : (Rows.machineIdleRow.inPlace == Tryz.prog.inPlace 6) = true := by kernel_rfl
theorem ZGy : (Rows.machineIdleRow.unfollowed == Tryz.prog.unfollowed 6) = true := by kernel_rfl
theorem ZGz : (Rows.machineIdleRow.recurses == Tryz.prog.recurses 6) = true := by kernel_rfl
theorem ZG0 : (Rows.machineIdleRow.named == Tryz.prog.varsNamed 6) = true := by kernel_rfl
theorem ZG1 : laidOutB Tryz.prog = true := by kernel_rfl
theorem ZG2 : mapsRowed Tryz.prog = true := by kernel_rfl
theorem ZG3 : Tryz.prog.funcNamed Rows.machineIdleRow.func = some 6 := by kernel_rfl
theorem ZG4 : joinedFacts Tryz.prog 6 Tryz.f6 Rows.machineIdleSpec Rows.machineIdleRow = true := by
 unfold joinedFacts
 rw [ZGx, ZGy, ZGz, ZG0, ZG1, ZG2]
 kernel_rfl
theorem ZE1 (os : Os) (started : os.Started) (H : Type) (enc : TypeId × Value -> H) :
  ReturnsInHanded {} Tryz.checked os 6 .any (Rows.machineIdleSpec.pre6 enc Tryz.prog Tryz.f6 Rows.machineIdleRow.domain false) (Rows.machineIdleSpec.post enc Tryz.prog Tryz.f6 false true false false) :=
 ZPH (C := Tryz.checked) 6 4 (by kernel_rfl) started (by kernel_rfl) (by kernel_rfl) Tryz.func6
  (ChangeSpec.witness6 (enc := enc) (C := Tryz.checked) false ⟨#[], #[.agg #[.int .i64 0, .slice none 0 0, .int .u32 0, .int .i64 0, .int .i64 0, .int .i64 0, .int .i64 0, .int .i64 0], .slice none 0 0], []⟩ 8 (by kernel_rfl) (by kernel_rfl) (by kernel_rfl) (by kernel_rfl))
  rfl (by kernel_rfl) (by kernel_rfl) (fun ds h => by match ds, h with | [_, _], _ => rfl) (by kernel_rfl) machineIdle_law rfl
theorem machineIdle_holds : Rows.MachineIdleSaid :=
 OpenClaim.holds_of_wide 6 Tryz.f6 rfl rfl rfl rfl rfl rfl rfl ⟨rfl, rfl, rfl, rfl, rfl⟩ rfl rfl rfl rfl rfl ZG3 Tryz.func6 ZG4
  (of_decide_eq_true (by kernel_rfl)) (by unfold Func.isWrapper; first | (rw [if_pos (by decide +kernel)]; kernel_rfl) | (rw [if_neg (by decide +kernel)]; exact ⟨rfl, rfl⟩))
  (fun os started H enc _ => ZE1 os started H enc)
#print axioms machineIdle_holds
end Go.Proofs.YtlkfolopbehikaaGreat
