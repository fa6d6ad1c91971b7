/- MachineNews holds: there are machines of just the configurations that may be. No condition beyond the given statement's own. -/
import Derived.Test.YtlkfolopbehikaaGreatRows
import Derived.Test.YtlkfolopbehikaaGreatSxV
import Derived.Test.YtlkfolopbehikaaGreatQkLaw
namespace Go.Proofs.YtlkfolopbehikaaGreat
open Go Go.Sx
theorem machineNews_j1 : (Rows.machineNewsRow.inPlace == Tryz.prog.inPlace 3) = true := by kernel_rfl
theorem machineNews_j2 : (Rows.machineNewsRow.unfollowed == Tryz.prog.unfollowed 3) = true := by kernel_rfl
theorem machineNews_j3 : (Rows.machineNewsRow.recurses == Tryz.prog.recurses 3) = true := by kernel_rfl
theorem machineNews_j4 : (Rows.machineNewsRow.named == Tryz.prog.varsNamed 3) = true := by kernel_rfl
theorem machineNews_j5 : laidOutB Tryz.prog = true := by kernel_rfl
theorem machineNews_j6 : mapsRowed Tryz.prog = true := by kernel_rfl
theorem machineNews_j7 : Tryz.prog.funcNamed Rows.machineNewsRow.func = some 3 := by kernel_rfl
theorem machineNews_jf : joinedFacts Tryz.prog 3 Tryz.f3 Rows.machineNewsSpec Rows.machineNewsRow = true := by
  unfold joinedFacts
  rw [machineNews_j1, machineNews_j2, machineNews_j3, machineNews_j4, machineNews_j5, machineNews_j6]
  kernel_rfl
theorem machineNews_lifted (os : Os) (started : os.Started) (H : Type) (enc : TypeId × Value → H) :
    ReturnsInHanded {} Tryz.checked os 3 .any (Rows.machineNewsSpec.pre6 enc Tryz.prog Tryz.f3 Rows.machineNewsRow.domain false) (Rows.machineNewsSpec.post enc Tryz.prog Tryz.f3 false true false false) :=
  law_lift (C := Tryz.checked) 3 4 (by kernel_rfl) started (by kernel_rfl) (by kernel_rfl) Tryz.func3
    (ChangeSpec.witness6 (enc := enc) (C := Tryz.checked) false ⟨#[], #[.agg #[.int .i64 0, .slice none 0 0, .int .u32 0, .int .i64 0, .int .i64 0, .int .i64 0, .int .i64 0, .int .i64 0]], []⟩ 8 (by kernel_rfl) (by kernel_rfl) (by kernel_rfl) (by kernel_rfl))
    rfl (by kernel_rfl) (by kernel_rfl) (fun ds h => by match ds, h with | [_], _ => rfl) (by kernel_rfl) machineNews_law rfl
/-- The row. -/
theorem machineNews_holds : Rows.MachineNewsSaid :=
  OpenClaim.holds_of_wide 3 Tryz.f3 rfl rfl rfl rfl rfl rfl rfl ⟨rfl, rfl, rfl, rfl, rfl⟩ rfl rfl rfl rfl rfl machineNews_j7 Tryz.func3 machineNews_jf
    (of_decide_eq_true (by kernel_rfl)) (by unfold Func.isWrapper; first | (rw [if_pos (by decide +kernel)]; kernel_rfl) | (rw [if_neg (by decide +kernel)]; exact ⟨rfl, rfl⟩))
    (fun os started H enc _ => machineNews_lifted os started H enc)
#print axioms machineNews_holds
end Go.Proofs.YtlkfolopbehikaaGreat
